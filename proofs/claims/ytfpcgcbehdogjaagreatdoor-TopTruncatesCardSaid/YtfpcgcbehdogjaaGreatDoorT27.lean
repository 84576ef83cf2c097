/-
  Lemmas on which LTopTruncates rests, packed out of the texts XChD XUnu XSame XStore XVer YPie; each for all arguments under the hypotheses it names.
-/
import Derived.Test.YtfpcgcbehdogjaaGreatDoorT25
import Derived.Test.YtfpcgcbehdogjaaGreatDoorT22
import Derived.Lib.AppendZeros
import Derived.WideMake
namespace Go.Proofs.YtfpcgcbehdogjaaGreatDoor
section
set_option maxHeartbeats 4000000
set_option maxRecDepth 100000
open Go.RowKit
theorem grow_one (w : World) : Calls Tryz.prog 214 #[.slice none 0 0, .int .i64 1] w fun e w' => ∃ v, e = .returned v ∧ w'.ownsRow w.heap.size 3 1 v 0 [] ∧ Keeps (fun _ => False) w w' := by
 obtain ⟨i0, hi, hz0, hz1, hz2⟩ := info_parts infoI
 have hG := grownCap_ge w 1 0 3
 have hG2 := grownCap_le_maxLen w 1 0 3 (by decide)
 have HG := Hj hG; have HG2 := Hj hG2
 clear hi hz0 hz1 hz2 hG hG2
 go_enter Tryz.func214, Tryz.ntmps214
 go_wp2_with fail
 go_ret
 have hs : ∀ k, (Builtin.zeroCells #[Value.int .i64 0] k).size = k := fun k => by simp [Builtin.zeroCells]
 refine ⟨_, rfl, ⟨rfl, .inr ⟨w.heap.size, _, _, rfl, Nat.le_refl _, heap_alloc_new w _, Nat.zero_le _, HG2.out, ?_, by simp⟩⟩, ((Keeps.refl (fun _ => False) w).alloc _).drew⟩
 rw [Array.size_append, hs, hs]
 have := HG.out
 simp only [grownCap] at this ⊢
 omega
theorem concat_one (b o cap : Nat) (ia : Option Addr) (ic n : Nat) (w : World) (h : w.cell? ⟨b, o, none⟩ = some (.slice ia 1 ic)) (hi : RdI w (.slice ia 1 ic) [n]) :
 Calls Tryz.prog 187 #[.slice (some ⟨b, o, none⟩) 1 cap] w fun e w' => ∃ v, e = .returned v ∧ w'.ownsRow w.heap.size 3 1 v 1 [.int .i64 (n : Int)] ∧ Keeps (fun _ => False) w w' := by
 have HG := Hj (grow_one w)
 have HI := Hj hi
 clear hi
 go_enter Tryz.func187, Tryz.ntmps187
 go_wp2_with fail
 go_loopw [3, 11] (fun c i wr => (c = .int .i64 0 ∧ i = .int .i64 0 ∨ c = .int .i64 1 ∧ i = .int .i64 1) ∧ wr = w) (fun _ i _ => 1 - (intOf i).toNat)
 case atStart => exact ⟨.inl ⟨rfl, rfl⟩, rfl⟩
 case round =>
  obtain ⟨hr, hwr⟩ := hrel
  obtain rfl := hwr.symm
  rcases hr with ⟨rfl, rfl⟩ | ⟨rfl, rfl⟩
  · go_wp2_with fail
    exact ⟨⟨.inr ⟨rfl, rfl⟩, by simp⟩, by simp [intOf]⟩
  · go_wp2_with (go_at_call 214; refine HG.out.mono ?_; rintro e w1 ⟨v1, rfl, ho1, hk1⟩)
    obtain ⟨a1, n1, rfl⟩ := qac ho1
    have HO1 := Hj ho1; have HK1 := Hj hk1
    have c1 := hk1.cell h (fun e => e)
    have HI1 := Hj (show RdI w1 (.slice ia 1 ic) [n] from Rd.keeps HI.out hk1 (fun _ _ e => e))
    have hz1 := hk1.size
    clear ho1 hk1
    go_loopw [6, 27] (fun c i wr => (c = .slice a1 0 n1 ∧ i = .int .i64 0 ∧ wr = w1) ∨ (i = .int .i64 1 ∧ Hid (wr.ownsRow w.heap.size 3 1 c 1 [.int .i64 (n : Int)]) ∧ Hid (Keeps (fun _ => False) w wr))) (fun _ i _ => 1 - (intOf i).toNat)
    case atStart => exact .inl ⟨rfl, rfl, rfl⟩
    case round =>
     rcases hrel with ⟨rfl, rfl, hwr⟩ | ⟨rfl, HO, HK⟩
     · obtain rfl := hwr.symm
       go_wp2_with (at_builtin
                    refine appE elI rfl _ _ rfl w.heap.size _ _ 0 1 [] [.int .i64 (n : Int)] rfl rfl HO1.out HI1.out (by simp [Value.oneCell']) (by omega) hz1 ?_
                    intro v6 w6 hown6 hg6' hn6
                    have hg6 : w1.grownBy w6 (Value.slice a1 0 n1).ownBlock := hg6'
                    have HO6 := Hj hown6; have HG6 := Hj hg6
                    clear hown6 hg6' hg6 hn6)
       have k6 : Keeps (fun k => (Value.slice a1 0 n1).ownBlock = some k) w1 w6 := (Keeps.refl _ w1).grown HG6.out (fun k hk e => e)
       exact ⟨.inr ⟨rfl, HO6, Hj (HK1.out.trans k6 (fun k hk e => by have := (HO1.out.lt k e).1; omega))⟩, by simp [intOf]⟩
     · obtain ⟨a9, c9, rfl⟩ := qac HO.out
       go_wp2_with fail
       go_ret
       exact ⟨_, rfl, HO.out, HK.out⟩
theorem fits_one (b o cap : Nat) (ia : Option Addr) (ic n : Nat) (w : World) (h : w.cell? ⟨b, o, none⟩ = some (.slice ia 1 ic)) (hi : RdI w (.slice ia 1 ic) [n]) (hn : n ≤ 1000000000) :
 Calls Tryz.prog 137 #[.int .i64 (n : Int), .slice (some ⟨b, o, none⟩) 1 cap] w fun e w' => e = .returned (.bool true) ∧ Keeps (fun _ => False) w w' := by
 have HC := Hj (concat_one b o cap ia ic n w h hi)
 clear h hi
 go_enter Tryz.func137, Tryz.ntmps137
 go_wp2_with (go_at_call 187; refine HC.out.mono ?_; rintro e w1 ⟨v1, rfl, ho1, hk1⟩; obtain ⟨g, c1, rfl⟩ := ownsRow_succ (k := 0) ho1)
 have hc := ho1.cells (g := g) rfl 0 _ rfl
 rw [qbn] at hc
 have hc' : w1.cell? ⟨g, 0, none⟩ = some (.int .i64 (n : Int)) := hc
 have HK1 := Hj hk1
 have hw0 : IntKind.i64.wrap ((n : Int) - (n : Int)) = 0 := by rw [IntWalk.i64_in _ (by omega)]; omega
 have hn0 : ¬ ((n : Int) < 0) := by omega
 clear hk1 ho1 hc HC
 go_loopw [0, 10] (fun c i wr => (c = .int .i64 (n : Int) ∧ i = .int .i64 0 ∨ c = .int .i64 0 ∧ i = .int .i64 1) ∧ wr = w1) (fun _ i _ => 1 - (intOf i).toNat)
 case atStart => exact ⟨.inl ⟨rfl, rfl⟩, rfl⟩
 case round =>
  obtain ⟨hr, hwr⟩ := hrel
  obtain rfl := hwr.symm
  rcases hr with ⟨rfl, rfl⟩ | ⟨rfl, rfl⟩
  · go_wp2_with fail
    exact ⟨⟨.inr ⟨by simp, by simp⟩, by simp⟩, by simp [intOf]⟩
  · go_wp2_with fail
    go_ret
    exact ⟨by simp, HK1.out⟩
theorem makeM1 (w : World) : (Instr.makeSlice 165 (.int .i64 1) (.int .i64 1)).run Tryz.prog w = .ok (.slice (some ⟨w.heap.size, 0, none⟩) 1 1) (w.alloc (.cells #[.slice none 0 0] 22)) := by
 obtain ⟨i0, hi, hz0, hz1, hz2⟩ := info_parts infoMs
 have := run_makeSlice (P := Tryz.prog) (w := w) 165 22 i0 (.slice none 0 0) Tryz.underlying165 hi hz0 .i64 .i64 1 1 (by omega) (by omega) (by rw [hz1]; simp) (by rw [hz2]; omega) (by omega)
 rw [hz1, show madeCells (Value.slice none 0 0).cells (Int.toNat 1 * 1) = #[.slice none 0 0] by kernel_rfl] at this
 exact this
theorem chunksdec_one (vb : Value) (b o cap : Nat) (ia : Option Addr) (ic : Nat) (smps : List Smp) (w : World) (hb : Holds w vb (u8s (chunkC smps))) (hl : (chunkC smps).length ≤ 1000000) (h : w.cell? ⟨b, o, none⟩ = some (.slice ia 1 ic)) (hi : RdI w (.slice ia 1 ic) [(chunkC smps).length]) (h1 : smps.length = 1) (h2 : tagO (valsS smps) = 1) (hf : FitS smps) (hT : TabZ w) (hF : TabF w) :
 Calls Tryz.prog 81 #[vb, .slice (some ⟨b, o, none⟩) 1 cap] w fun e w' => ∃ v u, e = .returned (.tuple #[v, .int .i64 0]) ∧ w'.ownsRow w.heap.size 22 1 v 1 [u] ∧ w'.ownsRow w.heap.size 28 2 u smps.length (smpC smps) ∧ Keeps (fun _ => False) w w' := by
 obtain ⟨i8, hi8, hz8, hz81, hz82⟩ := info_parts infoU8
 obtain ⟨ab, nb, cb, rfl⟩ : ∃ d n p, vb = .slice d n p := by obtain ⟨d, p, h, _⟩ := hb; exact ⟨d, _, p, h⟩
 have hnb : nb = (chunkC smps).length := by obtain ⟨d, p, h, _⟩ := hb; simp only [Value.slice.injEq] at h; rw [h.2.1, qaa]
 subst hnb
 have HFI := Hj (fits_one b o cap ia ic _ w h hi (by omega))
 have HDE : Hid (∀ (v : Value) (q : World), Holds q v (u8s (chunkC smps)) → Keeps (fun _ => False) w q → Calls Tryz.prog 8 #[v] q fun e w' => ∃ g, e = .returned (.tuple #[.slice (some ⟨g, 0, none⟩) smps.length smps.length, .int .i64 0]) ∧ q.heap.size ≤ g ∧ w'.heap[g]? = some (.cells (smpC smps).toArray 28 (0, 0)) ∧ Keeps (fun _ => False) q w') := Hj (fun v q hv hk => cdecode_one v smps q hv h1 h2 hf (hT.keeps hk (fun e => e)) (hF.keeps hk (fun e => e)))
 have h1' : 1 ≤ smps.length := by omega
 have h2' : smps.length ≤ 120 := by omega
 clear h1 h2
 have HB := Hj hb; have HI := Hj hi
 obtain ⟨N, hN⟩ : ∃ N, N = (chunkC smps).length := ⟨_, rfl⟩
 rw [← hN] at HFI hl HB HI
 have HNN := Hj hN
 have HH := Hj h
 clear hb hi hT hF hf h
 rw [← hN]
 clear hN
 go_enter Tryz.func81, Tryz.ntmps81
 have hmm := makeM1
 go_wp2_with (go_at_call 137; refine HFI.out.mono ?_; rintro e w1 ⟨rfl, hk1⟩)
 clear hmm
 obtain ⟨W2, hW2⟩ : ∃ W2, W2 = w1.alloc (.cells #[.slice none 0 0] 22) := ⟨_, rfl⟩
 have hk2 : Keeps (fun _ => False) w W2 := by rw [hW2]; exact hk1.alloc _
 have hr2 : W2.heap[w1.heap.size]? = some (.cells #[.slice none 0 0] 22 (0, 0)) := by rw [hW2]; exact heap_alloc_new w1 _
 have hs2 : W2.heap.size = w1.heap.size + 1 := by rw [hW2]; simp
 have hz1 := hk1.size
 rw [← hW2]
 have HK2 := Hj hk2; have HR2 := Hj hr2; have HS2 := Hj hs2
 clear hk1 hk2 hr2 hs2 hW2 HFI
 go_loopw [0, 23] (fun c i wr => (c = .slice ab N cb ∧ i = .int .i64 0 ∧ wr = W2) ∨ (i = .int .i64 1 ∧ ∃ u, Hid (wr.heap[w1.heap.size]? = some (.cells #[u] 22 (0, 0))) ∧ Hid (wr.ownsRow (w1.heap.size + 1) 28 2 u smps.length (smpC smps)) ∧ Hid (Keeps (fun k => k = w1.heap.size) W2 wr))) (fun _ i _ => 1 - (intOf i).toNat)
 case atStart => exact .inl ⟨rfl, rfl, rfl⟩
 case round =>
  rcases hrel with ⟨rfl, rfl, hwr⟩ | ⟨rfl, u, HU, HO, HK⟩
  · obtain rfl := hwr.symm
    have c1 := HK2.out.cell HH.out (fun e => e)
    have hi2 : RdI W2 (.slice ia 1 ic) [N] := Rd.keeps HI.out HK2.out (fun _ _ e => e)
    obtain ⟨b2, o2, rfl, hc2⟩ := RdI.at (cap := ic) (l := [N]) hi2 (i := 0) rfl
    rw [Nat.add_zero] at hc2
    have hb2 : Holds W2 (.slice ab N cb) (u8s (chunkC smps)) := HB.out.keeps HK2.out (fun _ _ e => e)
    obtain ⟨a3, c3, e3, hh3, _⟩ := run_to (P := Tryz.prog) W2 29 5 Tryz.underlying29 hi8 hz81 hb2 .i64 N (by rw [qaa, HNN.out]; exact Nat.le_refl _)
    rw [List.take_of_length_le (by rw [qaa, HNN.out]; exact Nat.le_refl _)] at hh3
    have HD := Hj (HDE.out _ W2 hh3 HK2.out)
    clear hi2 hb2 hh3
    go_wp2_with fail
    go_loopw [0, 30] (fun c i wr => (c = .slice ab N cb ∧ i = .int .i64 0 ∧ wr = W2) ∨ (i = .int .i64 1 ∧ ∃ u, Hid (wr.heap[w1.heap.size]? = some (.cells #[u] 22 (0, 0))) ∧ Hid (wr.ownsRow (w1.heap.size + 1) 28 2 u smps.length (smpC smps)) ∧ Hid (Keeps (fun k => k = w1.heap.size) W2 wr))) (fun _ i _ => 1 - (intOf i).toNat)
    case atStart => exact .inl ⟨rfl, rfl, rfl⟩
    case round =>
     rcases hrel with ⟨rfl, rfl, hwr⟩ | ⟨rfl, u, HU, HO, HK⟩
     · obtain rfl := hwr.symm
       go_upto_region 16 with (first
        | (go_at_call 8
           refine HD.out.mono ?_
           rintro e w5 ⟨g, rfl, hg, hrow, hk5⟩
           have hr5 := hk5.heap HR2.out (fun e => e)
           have d0 : w5.cell? ⟨w1.heap.size, 0, none⟩ = some (.slice none 0 0) := by rw [cell_of_row _ _ _ _ _ _ hr5]; rfl
           have HROW := Hj (rdS_block hrow); have HK5 := Hj hk5; have HR5 := Hj hr5
           clear hrow hk5 hr5)
        | (at_builtin
           refine appE elM rfl _ _ rfl (w1.heap.size + 1) _ _ 0 smps.length [] (smpC smps) rfl rfl (World.ownsRow_nil _ _ _ _) HROW.out (smpC_one smps) (by omega) (by have := HK5.out.size; have := HS2.out; omega) ?_
           intro v6 w6 hown6 hg6' hn6
           have hg6 : w5.grownBy w6 none := hg6'
           have k6 : Keeps (fun _ => False) w5 w6 := (Keeps.refl (fun _ => False) w5).grown hg6 (fun k hk e => by cases e)
           have hr6 := k6.heap HR5.out (fun e => e)
           have d1 : w6.cell? ⟨w1.heap.size, 0, none⟩ = some (.slice none 0 0) := by rw [cell_of_row _ _ _ _ _ _ hr6]; rfl
           have d2 : w6.frozen? ⟨w1.heap.size, 0, none⟩ = false := frozen_of_row _ _ _ _ _ hr6
           rw [Nat.zero_add, List.nil_append] at hown6
           obtain ⟨a6, c6, rfl⟩ := qac hown6
           have HO6 := Hj hown6; have K6 := Hj k6; have HR6 := Hj hr6
           clear hown6 hg6' hg6 hn6 k6 hr6))
       clear d0 d1 d2
       obtain ⟨W7, hW7⟩ : ∃ W7, W7 = w6.setCell ⟨w1.heap.size, 0, none⟩ (.slice a6 smps.length c6) := ⟨_, rfl⟩
       have k7 : Keeps (fun k => k = w1.heap.size) w6 W7 := by rw [hW7]; exact (Keeps.refl (fun k => k = w1.heap.size) w6).setCell (p := ⟨w1.heap.size, 0, none⟩) (fun _ => rfl) _
       have r7 : W7.heap[w1.heap.size]? = some (.cells #[.slice a6 smps.length c6] 22 (0, 0)) := by rw [hW7]; exact (heap_setCell_same w6 w1.heap.size 0 _ _ (.slice a6 smps.length c6) HR6.out).trans rfl
       have k27 : Keeps (fun k => k = w1.heap.size) W2 W7 := ((HK5.out.trans K6.out (fun _ _ e => e)).mono (S' := fun k => k = w1.heap.size) (fun _ _ e => e.elim)).trans k7 (fun _ _ e => e)
       have hb7 : Holds W7 (.slice ab N cb) (u8s (chunkC smps)) := HB.out.fresh ((HK2.out.mono (S' := fun k => w.heap.size ≤ k) (fun _ _ e => e.elim)).trans k27 (fun k hk e => by omega))
       obtain ⟨a8, c8, e8, _, _⟩ := qff (P := Tryz.prog) W7 29 5 Tryz.underlying29 hi8 hz81 hb7 .i64 N (by rw [qaa, HNN.out]; exact Nat.le_refl _)
       have hn6 : ∀ g', (Value.slice a6 smps.length c6).ownBlock = some g' → w1.heap.size + 1 ≤ g' := fun g' hg' => (HO6.out.lt g' hg').1
       have o7 := k7.row HO6.out (fun g' hg' e => by have := hn6 g' hg'; omega)
       rw [← hW7]
       have HR7 := Hj r7; have HO7 := Hj o7; have HK7 := Hj k27
       clear hW7 k7 r7 k27 hb7 o7
       go_wp2_with fail
       exact ⟨.inr ⟨rfl, _, HR7, HO7, HK7⟩, by simp [intOf]⟩
     · go_wp2_with fail
       exact ⟨.inr ⟨rfl, u, HU, HO, HK⟩, by simp [intOf]⟩
  · go_wp2_with fail
    go_ret2
    obtain ⟨a9, c9, rfl⟩ := qac HO.out
    have hwz : w.heap.size ≤ w1.heap.size := hz1
    exact ⟨_, .slice a9 smps.length c9, rfl, ⟨rfl, .inr ⟨w1.heap.size, 1, _, rfl, hwz, HU.out, Nat.le_refl _, by decide, rfl, rfl⟩⟩, qao HO.out (fun g hg => by have := (HO.out.lt g hg).1; omega), HK2.out.trans HK.out (fun k hk e => by omega)⟩
end
section
set_option maxHeartbeats 4000000
set_option maxRecDepth 100000
open Go.RowKit
def sA : ByteArray := ⟨#[97]⟩
def s1 : ByteArray := ⟨#[49]⟩
theorem updA {w : World} {M : Nat} (hM : w.heap[M]? = some (.map #[] 0)) : (Instr.mapUpdate 249 (.map (some M)) (.string sA) (.bool true)).run Tryz.prog w = .ok () (w.putObj M (.map #[⟨.string sA, .bool true, 0⟩] 1)) := by
 have hf : Instr.findNow .string (.string sA) ([] : List MapEntry) 0 = some none := rfl
 have hc : (Instr.checkKey false 10000 9 (.string sA)).run Tryz.prog w = .ok () w := MapKept.run_checkKey (k := .string sA) Tryz.underlying9 (by simp [MapKept.IsKey]) false 9999
 simp [Instr.mapUpdate, run_underlying Tryz.underlying249, MapKept.run_getObj_map hM, hc, MapKept.run_findKey Tryz.underlying9 hf, MapKept.run_setObj_map _ hM, Result.andThen, World.putObj]
theorem upd1 {w : World} {M : Nat} (hM : w.heap[M]? = some (.map #[⟨.string sA, .bool true, 0⟩] 1)) : (Instr.mapUpdate 249 (.map (some M)) (.string s1) (.bool true)).run Tryz.prog w = .ok () (w.putObj M (.map #[⟨.string sA, .bool true, 0⟩, ⟨.string s1, .bool true, 1⟩] 2)) := by
 have hf : Instr.findNow .string (.string s1) ([⟨.string sA, .bool true, 0⟩] : List MapEntry) 0 = some none := by kernel_rfl
 have hc : (Instr.checkKey false 10000 9 (.string s1)).run Tryz.prog w = .ok () w := MapKept.run_checkKey (k := .string s1) Tryz.underlying9 (by simp [MapKept.IsKey]) false 9999
 simp [Instr.mapUpdate, run_underlying Tryz.underlying249, MapKept.run_getObj_map hM, hc, MapKept.run_findKey Tryz.underlying9 hf, MapKept.run_setObj_map _ hM, Result.andThen, World.putObj]
theorem lookA {w : World} {M : Nat} (hM : w.heap[M]? = some (.map #[⟨.string sA, .bool true, 0⟩, ⟨.string s1, .bool true, 1⟩] 2)) : (Instr.lookup 249 (.map (some M)) (.string sA) false).run Tryz.prog w = .ok (.bool true) w := by
 have hf : Instr.findNow .string (.string sA) ([⟨.string sA, .bool true, 0⟩, ⟨.string s1, .bool true, 1⟩] : List MapEntry) 0 = some (some (0, .bool true)) := by kernel_rfl
 have hc : (Instr.checkKey false 10000 9 (.string sA)).run Tryz.prog w = .ok () w := MapKept.run_checkKey (k := .string sA) Tryz.underlying9 (by simp [MapKept.IsKey]) false 9999
 simp [Instr.lookup, run_underlying Tryz.underlying249, MapKept.run_getObj_map hM, hc, MapKept.run_findKey Tryz.underlying9 hf, Result.andThen]
theorem look1 {w : World} {M : Nat} (hM : w.heap[M]? = some (.map #[⟨.string sA, .bool true, 0⟩, ⟨.string s1, .bool true, 1⟩] 2)) : (Instr.lookup 249 (.map (some M)) (.string s1) false).run Tryz.prog w = .ok (.bool true) w := by
 have hf : Instr.findNow .string (.string s1) ([⟨.string sA, .bool true, 0⟩, ⟨.string s1, .bool true, 1⟩] : List MapEntry) 0 = some (some (1, .bool true)) := by kernel_rfl
 have hc : (Instr.checkKey false 10000 9 (.string s1)).run Tryz.prog w = .ok () w := MapKept.run_checkKey (k := .string s1) Tryz.underlying9 (by simp [MapKept.IsKey]) false 9999
 simp [Instr.lookup, run_underlying Tryz.underlying249, MapKept.run_getObj_map hM, hc, MapKept.run_findKey Tryz.underlying9 hf, Result.andThen]
theorem unused_small (tb0 to0 tc rb ro rc : Nat) (la : Option Addr) (lc : Nat) (ia : Option Addr) (ic : Nat) (w : World) (t1 : w.cell? ⟨tb0, to0, none⟩ = some (.string s1)) (t2 : w.cell? ⟨tb0, to0 + 1, none⟩ = some (.string sA)) (r1 : w.cell? ⟨rb, ro, none⟩ = some (.slice la 1 lc)) (r2 : w.cell? ⟨rb, ro + 1, none⟩ = some (.slice ia 1 ic)) (hL : RdL w (.slice la 1 lc) [(sA, s1)]) :
 Calls Tryz.prog 78 #[.slice (some ⟨tb0, to0, none⟩) 2 tc, .slice (some ⟨rb, ro, none⟩) 1 rc] w fun e w' => e = .returned (.int .i64 (-1)) ∧ Keeps (fun _ => False) w w' := by
 obtain ⟨W1, hW1⟩ : ∃ W1, W1 = w.alloc (.map #[] 0) := ⟨_, rfl⟩
 have hk1 : Keeps (fun _ => False) w W1 := by rw [hW1]; exact (Keeps.refl _ _).alloc _
 have hm1 : W1.heap[w.heap.size]? = some (.map #[] 0) := by rw [hW1]; exact heap_alloc_new w _
 have HW1 := Hj hW1; have HK1 := Hj hk1; have HM1 := Hj hm1; have HL := Hj hL
 have T1 := Hj t1; have T2 := Hj t2; have R1 := Hj r1; have R2 := Hj r2
 clear hW1 hk1 hm1 hL t1 t2 r1 r2
 go_enter Tryz.func78, Tryz.ntmps78
 have hmk : (Instr.makeMap 249 none).run Tryz.prog w = .ok (.map (some w.heap.size)) W1 := (run_makeMap_plain w 249).trans (by rw [HW1.out])
 go_wp2_with fail
 clear hmk
 go_loopw [15] (fun i wr => (i = .int .i64 0 ∧ wr = W1) ∨ (i = .int .i64 1 ∧ Hid (wr.heap[w.heap.size]? = some (.map #[⟨.string sA, .bool true, 0⟩, ⟨.string s1, .bool true, 1⟩] 2)) ∧ Hid (Keeps (fun k => k = w.heap.size) W1 wr))) (fun i _ => 1 - (intOf i).toNat)
 case atStart => exact .inl ⟨rfl, rfl⟩
 case round =>
  rcases hrel with ⟨rfl, hwr⟩ | ⟨rfl, HM, HK⟩
  · obtain rfl := hwr.symm
    have x1 := HK1.out.cell R1.out (fun e => e)
    have x2 := HK1.out.cell R2.out (fun e => e)
    obtain ⟨W2, hW2⟩ : ∃ W2, W2 = W1.alloc (.cells #[.slice la 1 lc, .slice ia 1 ic] 127) := ⟨_, rfl⟩
    have hk2 : Keeps (fun _ => False) W1 W2 := by rw [hW2]; exact (Keeps.refl _ _).alloc _
    have hr2 : W2.heap[W1.heap.size]? = some (.cells #[.slice la 1 lc, .slice ia 1 ic] 127 (0, 0)) := by rw [hW2]; exact heap_alloc_new W1 _
    have hz1 := qan HM1.out
    have HLS := Hj (lstr_any (.slice la 1 lc) [(sA, s1)] W2 (HL.out.below (HK1.out.trans hk2 (fun _ _ e => e)).toBelow) (by decide))
    have HW2 := Hj hW2; have HK2 := Hj hk2; have HR2 := Hj hr2
    clear hW2 hk2 hr2
    go_upto_region 5 with fail
    rw [← HW2.out]
    have y1 : W2.cell? ⟨W1.heap.size, 0, none⟩ = some (.slice la 1 lc) := by rw [cell_of_row _ _ _ _ _ _ HR2.out]; rfl
    go_wp2_with (go_at_call 120
                 refine HLS.out.mono ?_
                 rintro e w3 ⟨v3, rfl, ho3, hb3⟩
                 obtain ⟨g, c3, rfl⟩ := ownsRow_succ (k := 1) ho3)
    have hk3 : Keeps (fun _ => False) W1 w3 := HK2.out.trans hb3.toKeeps (fun _ _ e => e)
    have q1 := ho3.cells (g := g) rfl 0 (.string sA) rfl
    have q2 := ho3.cells (g := g) rfl 1 (.string s1) rfl
    rw [qbn] at q1 q2
    have Q1 : Hid (w3.cell? ⟨g, 0, none⟩ = some (.string sA)) := Hj q1
    have Q2 : Hid (w3.cell? ⟨g, 1, none⟩ = some (.string s1)) := Hj q2
    have hgM : w.heap.size ≠ g := by have := (ho3.lt g rfl).1; have := HK2.out.size; omega
    have hm3 := hk3.heap HM1.out (fun e => e)
    obtain ⟨W4, hW4⟩ : ∃ W4, W4 = w3.putObj w.heap.size (.map #[⟨.string sA, .bool true, 0⟩] 1) := ⟨_, rfl⟩
    have hm4 : W4.heap[w.heap.size]? = some (.map #[⟨.string sA, .bool true, 0⟩] 1) := by rw [hW4]; exact World.putObj_heap_same (qan hm3)
    have hk4 : Keeps (fun k => k = w.heap.size) w3 W4 := by rw [hW4]; exact Keeps.putObj _ _ _ rfl
    obtain ⟨W5, hW5⟩ : ∃ W5, W5 = W4.putObj w.heap.size (.map #[⟨.string sA, .bool true, 0⟩, ⟨.string s1, .bool true, 1⟩] 2) := ⟨_, rfl⟩
    have hm5 : W5.heap[w.heap.size]? = some (.map #[⟨.string sA, .bool true, 0⟩, ⟨.string s1, .bool true, 1⟩] 2) := by rw [hW5]; exact World.putObj_heap_same (qan hm4)
    have hk5 : Keeps (fun k => k = w.heap.size) W4 W5 := by rw [hW5]; exact Keeps.putObj _ _ _ rfl
    have U1 : Hid ((Instr.mapUpdate 249 (.map (some w.heap.size)) (.string sA) (.bool true)).run Tryz.prog w3 = .ok () W4) := Hj (by rw [hW4]; exact updA hm3)
    have U2 : Hid ((Instr.mapUpdate 249 (.map (some w.heap.size)) (.string s1) (.bool true)).run Tryz.prog W4 = .ok () W5) := Hj (by rw [hW5]; exact upd1 hm4)
    have Q3 := Hj (hk4.cell Q2.out (fun e => hgM e.symm))
    have HM5 := Hj hm5
    have HK5 := Hj ((hk3.mono (S' := fun k => k = w.heap.size) (fun _ _ e => e.elim)).trans (hk4.trans hk5 (fun _ _ e => e)) (fun _ _ e => e))
    clear hW4 hW5 hm3 hm4 hm5 hk3 hk4 hk5 q1 q2 y1 x1 x2 ho3 hb3 HLS
    go_loopw [23] (fun i wr => (i = .int .i64 0 ∧ wr = w3) ∨ (i = .int .i64 1 ∧ wr = W4) ∨ (i = .int .i64 2 ∧ wr = W5)) (fun i _ => 2 - (intOf i).toNat)
    case atStart => exact .inl ⟨rfl, rfl⟩
    case round =>
     rcases hrel with ⟨rfl, hwr⟩ | ⟨rfl, hwr⟩ | ⟨rfl, hwr⟩
     · obtain rfl := hwr.symm
       have q1 := Q1.out
       have u1 := U1.out
       go_wp2_with fail
       exact ⟨.inr (.inl ⟨by simp, by simp⟩), by simp [intOf]⟩
     · obtain rfl := hwr.symm
       have q1 := Q3.out
       have u1 := U2.out
       go_wp2_with fail
       exact ⟨.inr (.inr ⟨by simp, by simp⟩), by simp [intOf]⟩
     · obtain rfl := hwr.symm
       go_wp2_with fail
       exact ⟨.inr ⟨rfl, HM5, HK5⟩, by simp [intOf]⟩
  · have t1 := HK.out.cell (HK1.out.cell T1.out (fun e => e)) (by have := World.block_lt_of_cell? w _ T1.out; simp only at this ⊢; omega)
    have t2 := HK.out.cell (HK1.out.cell T2.out (fun e => e)) (by have := World.block_lt_of_cell? w _ T2.out; simp only at this ⊢; omega)
    have la1 := look1 HM.out
    have laA := lookA HM.out
    go_wp2_with fail
    go_loopw [33] (fun i w' => (i = .int .i64 0 ∨ i = .int .i64 1 ∨ i = .int .i64 2) ∧ w' = wr) (fun i _ => 2 - (intOf i).toNat)
    case atStart => exact ⟨.inl rfl, rfl⟩
    case round =>
     obtain ⟨hi, hwr⟩ := hrel
     subst hwr
     rcases hi with rfl | rfl | rfl
     · go_wp2_with fail
       exact ⟨⟨.inr (.inl rfl), by simp⟩, by simp [intOf]⟩
     · go_wp2_with fail
       exact ⟨⟨.inr (.inr rfl), by simp⟩, by simp [intOf]⟩
     · go_wp2_with fail
       go_ret
       exact ⟨rfl, HK1.out.trans HK.out (fun k hk e => by omega)⟩
end
section
set_option maxHeartbeats 4000000
set_option maxRecDepth 100000
open Go.RowKit
theorem same1_ok (x : Lab) (b1 o1 c1 b2 o2 c2 : Nat) (w : World) (h1 : w.cell? ⟨b1, o1, none⟩ = some (.int .i64 0)) (h2 : w.cell? ⟨b2, o2, none⟩ = some (.int .i64 0)) :
 Calls Tryz.prog 139 #[.agg #[.string x.1, .string x.2, .slice (some ⟨b1, o1, none⟩) 1 c1], .agg #[.string x.1, .string x.2, .slice (some ⟨b2, o2, none⟩) 1 c2]] w fun e w' => e = .returned (.bool true) ∧ Keeps (fun _ => False) w w' := by
 have HE : Hid (∀ q, Keeps (fun _ => False) w q → Calls Tryz.prog 140 #[.slice (some ⟨b1, o1, none⟩) 1 c1, .slice (some ⟨b2, o2, none⟩) 1 c2] q fun e w' => e = .returned (.bool true) ∧ ∃ n, w' = q.drewN n) := Hj (fun q hq => by
  have := Tryz.slices_Equal_int b1 o1 1 c1 b2 o2 1 c2 [0] [0] q (by decide) (by decide) (by decide) (by decide) (fun j hj => (by simpa using hj : j = 0) ▸ hq.cell h1 (fun e => e)) (fun j hj => (by simpa using hj : j = 0) ▸ hq.cell h2 (fun e => e))
  exact this)
 clear h1 h2
 go_enter Tryz.func139, Tryz.ntmps139
 go_wp2_with (go_at_call 140; refine (HE.out _ (((Keeps.refl (fun _ => False) w).alloc _).alloc _)).mono ?_; rintro e w1 ⟨rfl, n, hw1⟩)
 go_ret
 exact ⟨rfl, (((Keeps.refl (fun _ => False) w).alloc _).alloc _).drewN n⟩
theorem eqfunc_one (x : Lab) (a1 p1 d1 a2 p2 d2 b1 o1 c1 b2 o2 c2 : Nat) (w : World) (e1 : w.cell? ⟨a1, p1, none⟩ = some (.string x.1)) (e2 : w.cell? ⟨a1, p1 + 1, none⟩ = some (.string x.2)) (e3 : w.cell? ⟨a1, p1 + 2, none⟩ = some (.slice (some ⟨b1, o1, none⟩) 1 c1))
 (f1 : w.cell? ⟨a2, p2, none⟩ = some (.string x.1)) (f2 : w.cell? ⟨a2, p2 + 1, none⟩ = some (.string x.2)) (f3 : w.cell? ⟨a2, p2 + 2, none⟩ = some (.slice (some ⟨b2, o2, none⟩) 1 c2)) (h1 : w.cell? ⟨b1, o1, none⟩ = some (.int .i64 0)) (h2 : w.cell? ⟨b2, o2, none⟩ = some (.int .i64 0)) :
 Calls Tryz.prog 138 #[.slice (some ⟨a1, p1, none⟩) 1 d1, .slice (some ⟨a2, p2, none⟩) 1 d2, .func (.func 139) #[] #[]] w fun e w' => e = .returned (.bool true) ∧ Keeps (fun _ => False) w w' := by
 obtain ⟨x1, x2⟩ := x
 obtain ⟨W1, hW1⟩ : ∃ W1, W1 = w.alloc (.cells #[.string x1, .string x2, .slice (some ⟨b1, o1, none⟩) 1 c1] 229) := ⟨_, rfl⟩
 have hk1 : Keeps (fun _ => False) w W1 := by rw [hW1]; exact (Keeps.refl _ _).alloc _
 have HS : Hid (∀ q, Keeps (fun _ => False) w q → Calls Tryz.prog 139 #[.agg #[.string x1, .string x2, .slice (some ⟨b1, o1, none⟩) 1 c1], .agg #[.string x1, .string x2, .slice (some ⟨b2, o2, none⟩) 1 c2]] q fun e w' => e = .returned (.bool true) ∧ Keeps (fun _ => False) q w') := Hj (fun q hq => same1_ok (x1, x2) b1 o1 c1 b2 o2 c2 q (hq.cell h1 (fun e => e)) (hq.cell h2 (fun e => e)))
 have HF1 := Hj f1; have HF2 := Hj f2; have HF3 := Hj f3
 clear h1 h2 f1 f2 f3 hW1 hk1 W1
 go_enter Tryz.func138, Tryz.ntmps138
 go_wp2_with fail
 go_loopw [17] (fun i wr => (i = .int .i64 0 ∧ wr = w) ∨ (i = .int .i64 1 ∧ Hid (Keeps (fun _ => False) w wr))) (fun i _ => 1 - (intOf i).toNat)
 case atStart => exact .inl ⟨rfl, rfl⟩
 case round =>
  rcases hrel with ⟨rfl, hwr⟩ | ⟨rfl, HK⟩
  · obtain rfl := hwr.symm
    go_upto_region 6 with fail
    obtain ⟨W1, hW1⟩ : ∃ W1, W1 = w.alloc (.cells #[.string x1, .string x2, .slice (some ⟨b1, o1, none⟩) 1 c1] 229) := ⟨_, rfl⟩
    have hk1 : Keeps (fun _ => False) w W1 := by rw [hW1]; exact (Keeps.refl _ _).alloc _
    have hr1 : W1.heap[w.heap.size]? = some (.cells #[.string x1, .string x2, .slice (some ⟨b1, o1, none⟩) 1 c1] 229 (0, 0)) := by rw [hW1]; exact heap_alloc_new w _
    rw [← hW1]
    have f1 := hk1.cell HF1.out (fun e => e); have f2 := hk1.cell HF2.out (fun e => e); have f3 := hk1.cell HF3.out (fun e => e)
    have HK1 := Hj hk1; have HR1 := Hj hr1
    clear hW1 hk1 hr1
    go_upto_region 7 with fail
    clear f1 f2 f3
    obtain ⟨W2, hW2⟩ : ∃ W2, W2 = W1.alloc (.cells #[.string x1, .string x2, .slice (some ⟨b2, o2, none⟩) 1 c2] 229) := ⟨_, rfl⟩
    have hk2 : Keeps (fun _ => False) W1 W2 := by rw [hW2]; exact (Keeps.refl _ _).alloc _
    have hr2 : W2.heap[W1.heap.size]? = some (.cells #[.string x1, .string x2, .slice (some ⟨b2, o2, none⟩) 1 c2] 229 (0, 0)) := by rw [hW2]; exact heap_alloc_new W1 _
    rw [← hW2]
    have HR2 := Hj hr2; have HR12 := Hj (hk2.heap HR1.out (fun e => e)); have HK2 := Hj (HK1.out.trans hk2 (fun _ _ e => e))
    clear hW2 hk2 hr2
    go_wp2_with (first
     | (refine wpList_load_row rfl 229 _ rfl w.heap.size rfl 229 _ (0, 0) _ HR12.out Tryz.underlying229 rfl (by kernel_rfl) ?_)
     | (refine wpList_load_row rfl 229 _ rfl W1.heap.size rfl 229 _ (0, 0) _ HR2.out Tryz.underlying229 rfl (by kernel_rfl) ?_)
     | (go_at_call 139; refine (HS.out _ HK2.out).mono ?_; rintro e w3 ⟨rfl, hk3⟩))
    exact ⟨.inr ⟨rfl, Hj (HK2.out.trans hk3 (fun _ _ e => e))⟩, by simp [intOf]⟩
  · go_wp2_with fail
    go_ret
    exact ⟨rfl, HK.out⟩
theorem sameindex_one (x : Lab) (v1 v2 : Value) (h1 h2 : EntH) (w : World) (e1 : RdE w v1 [h1] [(x, [0])]) (e2 : RdE w v2 [h2] [(x, [0])]) :
 Calls Tryz.prog 82 #[v1, v2] w fun e w' => e = .returned (.bool true) ∧ Keeps (fun _ => False) w w' := by
 have key : ∀ (v : Value) (h : EntH), RdE w v [h] [(x, [0])] → ∃ a p d b o c, v = .slice (some ⟨a, p, none⟩) 1 d ∧ w.cell? ⟨a, p, none⟩ = some (.string x.1) ∧ w.cell? ⟨a, p + 1, none⟩ = some (.string x.2) ∧ w.cell? ⟨a, p + 2, none⟩ = some (.slice (some ⟨b, o, none⟩) 1 c) ∧ w.cell? ⟨b, o, none⟩ = some (.int .i64 0) := fun v h e => by
  obtain ⟨ad, cap, rfl, _⟩ := Rd.slice e.2.1
  obtain ⟨a, p, rfl, q1, q2, q3⟩ := RdE.at (hs := [h]) e (i := 0) rfl
  obtain ⟨hl, hi⟩ := e.2.2 0 h (x, [0]) rfl rfl
  obtain ⟨hx, sa, sn, sc⟩ := h
  have hl' : hx = x := hl
  subst hl'
  have hi' : RdI w (.slice sa sn sc) [0] := hi
  have en : sn = 1 := by obtain ⟨_, _, _, hv, _⟩ := hi'; simp only [Value.slice.injEq] at hv; exact hv.2.1
  subst en
  obtain ⟨b, o, rfl, c0⟩ := RdI.at (l := [0]) hi' (i := 0) rfl
  refine ⟨a, p, cap, b, o, sc, rfl, ?_, ?_, ?_, c0⟩
  · simpa using q1
  · simpa using q2
  · simpa [EntH.sv] using q3
 obtain ⟨a1, p1, d1, b1, o1, c1, rfl, x1, x2, x3, x4⟩ := key v1 h1 e1
 obtain ⟨a2, p2, d2, b2, o2, c2, rfl, y1, y2, y3, y4⟩ := key v2 h2 e2
 have HEQ := Hj (eqfunc_one x a1 p1 d1 a2 p2 d2 b1 o1 c1 b2 o2 c2 w x1 x2 x3 y1 y2 y3 x4 y4)
 clear key x1 x2 x3 x4 y1 y2 y3 y4 e1 e2
 go_enter Tryz.func82, Tryz.ntmps82
 go_wp2_with (go_at_call 138; refine HEQ.out.mono ?_; rintro e w1 ⟨rfl, hk1⟩)
 go_ret
 exact ⟨rfl, hk1⟩
end
section
set_option maxHeartbeats 4000000
set_option maxRecDepth 100000
open Go.RowKit
theorem small_any (w : World) : Calls Tryz.prog 17 #[] w fun e w' => ∃ b hd, e = .returned (.slice (some ⟨b, 0, none⟩) 1 1) ∧ RdB w' (.slice (some ⟨b, 0, none⟩) 1 1) [hd] [([(sA, s1)], [(1, 2)])] ∧ Keeps (fun _ => False) w w' := by
 go_enter Tryz.func17, Tryz.ntmps17
 go_wp2_with fail
 go_ret
 have k1 := (Keeps.refl (fun _ => False) w).alloc (.cells #[.string ⟨#[97]⟩, .string ⟨#[49]⟩] 94)
 obtain ⟨A, hA⟩ : ∃ A, A = w.alloc (.cells #[.string ⟨#[97]⟩, .string ⟨#[49]⟩] 94) := ⟨_, rfl⟩
 have hAs : A.heap.size = w.heap.size + 1 := by rw [hA]; simp
 have rA : Rd 2 A (.slice (some ⟨w.heap.size, 0, none⟩) 1 1) 1 [.string sA, .string s1] := by rw [hA]; exact rd_new w 2 1 [.string sA, .string s1] 94 1 rfl (Nat.le_refl _)
 rw [← hA] at k1 ⊢
 obtain ⟨B, hB⟩ : ∃ B, B = A.alloc (.cells #[.int .i64 1, .int .u64 2] 28) := ⟨_, rfl⟩
 have k2 : Keeps (fun _ => False) A B := by rw [hB]; exact (Keeps.refl _ _).alloc _
 have hBs : B.heap.size = w.heap.size + 2 := by rw [hB]; simp [hAs]
 have rB : Rd 2 B (.slice (some ⟨w.heap.size + 1, 0, none⟩) 1 1) 1 [.int .i64 1, .int .u64 2] := by rw [hB, ← hAs]; exact rd_new A 2 1 [.int .i64 1, .int .u64 2] 28 1 rfl (Nat.le_refl _)
 rw [← hB]
 obtain ⟨C, hC⟩ : ∃ C, C = B.alloc (.cells #[.slice (some ⟨w.heap.size, 0, none⟩) 1 1, .slice (some ⟨w.heap.size + 1, 0, none⟩) 1 1] 97) := ⟨_, rfl⟩
 have k3 : Keeps (fun _ => False) B C := by rw [hC]; exact (Keeps.refl _ _).alloc _
 have rC : Rd 2 C (.slice (some ⟨w.heap.size + 1 + 1, 0, none⟩) 1 1) 1 [.slice (some ⟨w.heap.size, 0, none⟩) 1 1, .slice (some ⟨w.heap.size + 1, 0, none⟩) 1 1] := by rw [hC, show w.heap.size + 1 + 1 = B.heap.size from hBs.symm]; exact rd_new B 2 1 [.slice (some ⟨w.heap.size, 0, none⟩) 1 1, .slice (some ⟨w.heap.size + 1, 0, none⟩) 1 1] 97 1 rfl (Nat.le_refl _)
 rw [← hC]
 refine ⟨w.heap.size + 1 + 1, ⟨some ⟨w.heap.size, 0, none⟩, 1, 1, some ⟨w.heap.size + 1, 0, none⟩, 1, 1⟩, rfl, ⟨rfl, rC, fun i h r hi hr => ?_⟩, (k1.trans k2 (fun _ _ e => e)).trans k3 (fun _ _ e => e)⟩
 cases i with
 | zero =>
   simp only [List.getElem?_cons_zero, Option.some.injEq] at hi hr
   subst hi hr
   exact ⟨Rd.keeps rA (k2.trans k3 (fun _ _ e => e)) (fun _ _ e => e), Rd.keeps rB k3 (fun _ _ e => e)⟩
 | succ i => simp at hi
theorem class3 (w : World) : Calls Tryz.prog 35 #[.iface 30 (.int .i64 3)] w fun e w' => e = .returned (.int .i64 1) ∧ w' = w := by
 have hta : ∀ w, (Instr.typeAssert (.iface 30 (.int .i64 3)) 151 30 true).run Tryz.prog w = .ok (.tuple #[.int .i64 3, .bool true]) w := fun _ => by kernel_rfl
 go_enter Tryz.func35, Tryz.ntmps35
 go_wp2_with fail
 go_ret
 exact ⟨rfl, rfl⟩
end
section
set_option maxHeartbeats 4000000
set_option maxRecDepth 100000
open Go.RowKit
def rep3 : Array Value := #[.int .i64 1, .int .i64 3, .int .i64 0, .int .i64 0, .int .i64 0, .int .i64 0, .int .i64 0, .int .i64 0]
theorem qld (v : Value) (w : World) (hp : ∀ q, Keeps (fun _ => False) w q → qcl v q) :
 Calls Tryz.prog 14 #[v] w fun e w' => e = .returned (.agg rep3) ∧ Keeps (fun _ => False) w w' := by
 obtain ⟨W0, hW0⟩ : ∃ W0, W0 = w.alloc (.cells #[.int .i64 0, .int .i64 0, .int .i64 0, .int .i64 0, .int .i64 0, .int .i64 0, .int .i64 0, .int .i64 0] 46) := ⟨_, rfl⟩
 have hk0 : Keeps (fun _ => False) w W0 := by rw [hW0]; exact (Keeps.refl _ _).alloc _
 have hr0 : W0.heap[w.heap.size]? = some (.cells #[.int .i64 0, .int .i64 0, .int .i64 0, .int .i64 0, .int .i64 0, .int .i64 0, .int .i64 0, .int .i64 0] 46 (0, 0)) := by rw [hW0]; exact heap_alloc_new w _
 have HP := Hj (lparse_bad v W0 (fun q hq => hp q (hk0.trans hq (fun _ _ e => e))))
 have HW0 := Hj hW0; have HR0 := Hj hr0; have HK0 := Hj hk0
 clear hW0 hr0 hk0 hp
 have hcl := class3
 go_enter Tryz.func14, Tryz.ntmps14
 go_wp2_with (first
  | (go_at_call 34
     rw [← HW0.out]
     refine HP.out.mono ?_
     rintro e w1 ⟨rfl, k1⟩
     have K1 := Hj k1
     have HR1 := Hj (k1.heap HR0.out (fun e => e))
     clear k1)
  | (go_at_call 35; refine (hcl _).mono ?_; rintro e wq ⟨rfl, hwq⟩; subst hwq)
  | (refine wpList_store_row rfl 46 _ _ rfl w.heap.size #[.int .i64 1, .int .i64 3, .int .i64 0, .int .i64 0, .int .i64 0, .int .i64 0, .int .i64 0, .int .i64 0] rfl rfl 46 _ (heap_alloc _ HR1.out) (by kernel_rfl) rfl (by simp [Value.oneCell']) ?_))
 obtain ⟨W2, hW2⟩ : ∃ W2, W2 = w1.alloc (.cells #[.slice none 0 0, .slice none 0 0, .slice none 0 0, .slice none 0 0] 75) := ⟨_, rfl⟩
 have k2 : Keeps (fun _ => False) w1 W2 := by rw [hW2]; exact (Keeps.refl _ _).alloc _
 rw [← hW2]
 obtain ⟨W3, hW3⟩ : ∃ W3, W3 = W2.setRow w.heap.size #[.int .i64 1, .int .i64 3, .int .i64 0, .int .i64 0, .int .i64 0, .int .i64 0, .int .i64 0, .int .i64 0] := ⟨_, rfl⟩
 have k3 : Keeps (fun k => k = w.heap.size) W2 W3 := by rw [hW3]; exact qax (Keeps.refl _ _) _ _ (fun _ => rfl)
 have r3 : W3.heap[w.heap.size]? = some (.cells #[.int .i64 1, .int .i64 3, .int .i64 0, .int .i64 0, .int .i64 0, .int .i64 0, .int .i64 0, .int .i64 0] 46 (0, 0)) := by rw [hW3]; exact setRow_heap _ _ _ _ _ _ (k2.heap HR1.out (fun e => e))
 rw [← hW3]
 refine bodyPost_ret (results_cell_row Tryz.results14 _ _ w.heap.size 46 _ (0, 0) _ rfl r3 Tryz.underlying46 rfl (by kernel_rfl)) rfl ?_
 exact ⟨rfl, ((HK0.out.trans K1.out (fun _ _ e => e)).trans k2 (fun _ _ e => e)).trans k3 (fun k hk e => by omega)⟩
end
section
set_option maxHeartbeats 2000000
set_option maxRecDepth 100000
open Go.RowKit
theorem two_new (w : World) (a b : Obj) : ((w.alloc a).alloc b).heap[w.heap.size + 1]? = some b := by have := heap_alloc_new (w.alloc a) b; rwa [World.size_alloc] at this
theorem qch (v : Value) (w : World) (hp : qcl v w) :
 Calls Tryz.prog 16 #[v] w fun e w' => e = .returned (.int .i64 0) ∧ Keeps (fun _ => False) w w' := by
 have HP : Hid (qcl v w) := Hj hp
 clear hp
 go_enter Tryz.func16, Tryz.ntmps16
 go_wp2_with (first
  | (go_at_call 38
     refine HP.out.mono ?_
     rintro e w1 ⟨rfl, k1⟩
     have K1 := Hj k1
     clear k1)
  | (refine wpList_store_row rfl 75 _ _ rfl w1.heap.size #[.slice none 0 0, .slice none 0 0, .slice none 0 0, .slice none 0 0] rfl rfl 75 _ (heap_alloc _ (heap_alloc_new w1 _)) (by kernel_rfl) rfl (by simp [Value.oneCell']) ?_)
  | (refine wpList_store_row rfl 90 _ _ rfl (w1.heap.size + 1) #[.int .i64 0, .int .i64 0, .int .i64 0, .int .i64 0, .int .i64 0] rfl rfl 90 _ ((setRow_other _ _ _ _ (by omega)).trans (two_new w1 _ _)) (by kernel_rfl) rfl (by simp [Value.oneCell']) ?_))
 go_ret
 have hs := K1.out.size
 exact ⟨rfl, qax (qax ((K1.out.alloc _).alloc _) _ _ (fun h => by omega)) _ _ (fun h => by omega)⟩
def partV : Nat → Value
 | 0 => .iface 84 (.agg #[.int .i64 5, .iface 80 (.agg #[.int .i64 1])])
 | 6 => .iface 84 (.agg #[.int .i64 8, .iface 148 (.agg #[])])
 | 7 => .iface 148 (.agg #[])
 | s => .iface 80 (.agg #[.int .i64 (s : Int)])
theorem dend_any (v : Value) (at_ : Int) (w : World) : Calls Tryz.prog 280 #[.agg #[], v, .int .i64 at_] w fun e w' => e = .returned (.tuple #[.int .i64 0, .bool false]) ∧ Keeps (fun _ => False) w w' := by
 go_enter Tryz.func280, Tryz.ntmps280
 go_wp2_with fail
 go_ret2
 exact ⟨rfl, (Keeps.refl _ _).alloc _⟩
theorem fxnext_any (n : Int) (u : Value) (w : World) : Calls Tryz.prog 279 #[.agg #[.int .i64 n, u]] w fun e w' => e = .returned u ∧ Keeps (fun _ => False) w w' := by
 go_enter Tryz.func279, Tryz.ntmps279
 go_wp2_with fail
 go_ret
 exact ⟨rfl, (Keeps.refl _ _).alloc _⟩
theorem frnext_last (w : World) : Calls Tryz.prog 277 #[.agg #[.int .i64 5]] w fun e w' => e = .returned (partV 6) ∧ Keeps (fun _ => False) w w' := by
 go_enter Tryz.func277, Tryz.ntmps277
 go_wp2_with fail
 go_ret
 exact ⟨rfl, (Keeps.refl _ _).alloc _⟩
theorem frnext_any (n : Nat) (hn : n ≤ 100) (h5 : n ≠ 5) (w : World) : Calls Tryz.prog 277 #[.agg #[.int .i64 (n : Int)]] w fun e w' => e = .returned (.iface 80 (.agg #[.int .i64 ((n + 1 : Nat) : Int)])) ∧ Keeps (fun _ => False) w w' := by
 have hne : ((n : Int) == 5) = false := by simp; omega
 go_enter Tryz.func277, Tryz.ntmps277
 go_wp2_with fail
 go_ret
 exact ⟨rfl, (Keeps.refl _ _).alloc _⟩
theorem fxend_any (n i : Nat) (u : Value) (ad : Option Addr) (m cap : Nat) (w : World) (hn : n ≤ 100) (hi : i ≤ m) (hm : m ≤ 1000000000) : Calls Tryz.prog 278 #[.agg #[.int .i64 (n : Int), u], .slice ad m cap, .int .i64 (i : Int)] w fun e w' => ∃ (q : Nat) (ok : Bool), e = .returned (.tuple #[.int .i64 (q : Int), .bool ok]) ∧ (ok = true → q ≤ m ∧ n ≤ m) ∧ Keeps (fun _ => False) w w' := by
 obtain ⟨W0, hW0⟩ : ∃ W0, W0 = w.alloc (.cells #[.int .i64 (n : Int), u] 84) := ⟨_, rfl⟩
 have hr0 : W0.heap[w.heap.size]? = some (.cells #[.int .i64 (n : Int), u] 84 (0, 0)) := by rw [hW0]; exact heap_alloc_new w _
 have hk0 : Keeps (fun _ => False) w W0 := by rw [hW0]; exact (Keeps.refl _ _).alloc _
 have c0 : W0.cell? ⟨w.heap.size, 0, none⟩ = some (.int .i64 (n : Int)) := by rw [cell_of_row _ _ _ _ _ _ hr0]; rfl
 have HK := Hj hk0; have HW0 := Hj hW0
 clear hr0 hk0 hW0
 obtain ⟨t, ht⟩ : ∃ t : Nat, (t : Int) = (i : Int) + (n : Int) := ⟨i + n, by omega⟩
 obtain ⟨d, hd⟩ : ∃ d : Nat, (d : Int) = (m : Int) - (i : Int) := ⟨m - i, by omega⟩
 have hw1 : IntKind.i64.wrap ((i : Int) + (n : Int)) = (t : Int) := by simp [IntKind.wrap, IntKind.bits, IntKind.signed]; omega
 have hw2 : IntKind.i64.wrap ((m : Int) - (i : Int)) = (d : Int) := by simp [IntKind.wrap, IntKind.bits, IntKind.signed]; omega
 have HT := Hj ht; have HD := Hj hd
 clear ht hd
 go_enter Tryz.func278, Tryz.ntmps278
 go_upto_region 1 with fail
 rw [← HW0.out]
 go_quiet (fail)
 go_wp2_with fail
 go_ret2
 refine ⟨t, decide (n ≤ d), rfl, fun h => ?_, HK.out.drewN _⟩
 have := of_decide_eq_true h
 have := HT.out; have := HD.out
 constructor <;> omega
theorem frend_any (fid : Int) (v : Value) (l : List Nat) (i : Nat) (w : World) (h : Holds w v (u8s l)) (hb : ∀ c ∈ l, c < 256) (hi : i ≤ l.length) (hl : l.length ≤ 1000000000) :
 Calls Tryz.prog 276 #[.agg #[.int .i64 fid], v, .int .i64 (i : Int)] w fun e w' => ∃ (q : Nat) (ok : Bool), e = .returned (.tuple #[.int .i64 (q : Int), .bool ok]) ∧ (ok = true → q ≤ l.length) ∧ Keeps (fun _ => False) w w' := by
 obtain ⟨ad, cap, hv, _⟩ := id h
 rw [qaa] at hv
 subst hv
 obtain ⟨W0, hW0⟩ : ∃ W0, W0 = w.alloc (.cells #[.int .i64 fid] 80) := ⟨_, rfl⟩
 have hk0 : Keeps (fun _ => False) w W0 := by rw [hW0]; exact (Keeps.refl _ _).alloc _
 have HK := Hj hk0; have HW0 := Hj hW0
 obtain ⟨m, hm⟩ : ∃ m, m = l.length := ⟨_, rfl⟩
 by_cases hlt : i < l.length
 · have hget := qgp _ l (i + 1) W0 (h.keeps hk0 (fun _ _ e => e)) hb (by omega) (by omega)
   have hgl := vgo_len (l.drop (i + 1))
   rw [List.length_drop] at hgl
   generalize vgo 0 0 (l.drop (i + 1)) = g at hget hgl
   obtain ⟨x, cnt, er⟩ := g
   simp only [vres] at hget hgl
   rw [Int.natCast_add, Int.natCast_one] at hget
   have hnl : ¬ (l.length : Int) ≤ (i : Int) := by omega
   rw [← hm] at hget hgl hi hl hlt hnl ⊢
   clear h hb hm hW0 hk0
   by_cases h0 : er = 0
   · subst h0
     simp only [if_true] at hget
     obtain ⟨f, hf⟩ : ∃ f : Nat, f = i + 1 + cnt := ⟨_, rfl⟩
     rw [← hf] at hget
     obtain ⟨d, hd⟩ : ∃ d : Nat, (d : Int) = (m : Int) - (f : Int) := ⟨m - f, by omega⟩
     have hw1 : IntKind.i64.wrap ((m : Int) - (f : Int)) = (d : Int) := by simp [IntKind.wrap, IntKind.bits, IntKind.signed]; omega
     have HG := Hj hget
     by_cases h4 : d < 4
     · have h4' : (d : Int) < 4 := by omega
       clear hget hf hd hgl
       go_enter Tryz.func276, Tryz.ntmps276
       go_wp2_with (go_at_call 132; rw [← HW0.out]; refine HG.out.mono ?_; rintro e w1 ⟨rfl, hw⟩; obtain rfl := hw)
       go_ret2
       exact ⟨0, false, rfl, (fun h => by cases h), HK.out⟩
     · have h4' : ¬ (d : Int) < 4 := by omega
       obtain ⟨r, hr⟩ : ∃ r : Nat, (r : Int) = (d : Int) - 4 := ⟨d - 4, by omega⟩
       have hdm : d ≤ 1000000000 := by omega
       have hw2 : IntKind.i64.wrap ((d : Int) - 4) = (r : Int) := by simp [IntKind.wrap, IntKind.bits, IntKind.signed]; omega
       have hw3 : IntKind.u64.wrap (r : Int) = (r : Int) := by simp [IntKind.wrap, IntKind.bits, IntKind.signed]; omega
       by_cases hx : r < x
       · have hx' : (r : Int) < (x : Int) := by omega
         clear hget hf hd hgl hr
         go_enter Tryz.func276, Tryz.ntmps276
         go_wp2_with (go_at_call 132; rw [← HW0.out]; refine HG.out.mono ?_; rintro e w1 ⟨rfl, hw⟩; obtain rfl := hw)
         go_ret2
         exact ⟨0, false, rfl, (fun h => by cases h), HK.out⟩
       · have hx' : ¬ (r : Int) < (x : Int) := by omega
         obtain ⟨y, hy⟩ : ∃ y : Nat, (y : Int) = (f : Int) + (x : Int) := ⟨f + x, by omega⟩
         obtain ⟨z, hz⟩ : ∃ z : Nat, (z : Int) = (y : Int) + 4 := ⟨y + 4, by omega⟩
         have hw4 : IntKind.i64.wrap (x : Int) = (x : Int) := by simp [IntKind.wrap, IntKind.bits, IntKind.signed]; omega
         have hw5 : IntKind.i64.wrap ((f : Int) + (x : Int)) = (y : Int) := by simp [IntKind.wrap, IntKind.bits, IntKind.signed]; omega
         have hw6 : IntKind.i64.wrap ((y : Int) + 4) = (z : Int) := by simp [IntKind.wrap, IntKind.bits, IntKind.signed]; omega
         have HE : Hid (z ≤ m) := Hj (by omega)
         clear hget hf hd hgl hr hy hz
         go_enter Tryz.func276, Tryz.ntmps276
         go_wp2_with (go_at_call 132; rw [← HW0.out]; refine HG.out.mono ?_; rintro e w1 ⟨rfl, hw⟩; obtain rfl := hw)
         go_ret2
         exact ⟨z, true, rfl, (fun _ => HE.out), HK.out⟩
   · have hne : ((er : Int) != 0) = true := by simp; omega
     obtain ⟨q, hq⟩ : ∃ q : Int, q = ((if er = 0 then i + 1 + cnt else 0 : Nat) : Int) := ⟨_, rfl⟩
     rw [← hq] at hget
     have HG := Hj hget
     clear hget hgl hq h0
     go_enter Tryz.func276, Tryz.ntmps276
     go_wp2_with (go_at_call 132; rw [← HW0.out]; refine HG.out.mono ?_; rintro e w1 ⟨rfl, hw⟩; obtain rfl := hw)
     go_ret2
     exact ⟨0, false, rfl, (fun h => by cases h), HK.out⟩
 · have hnl : (l.length : Int) ≤ (i : Int) := by omega
   rw [← hm] at hnl ⊢
   clear h hb hm hW0 hk0 hlt
   go_enter Tryz.func276, Tryz.ntmps276
   go_wp2_with fail
   go_ret2
   rw [← HW0.out]
   exact ⟨0, false, rfl, (fun h => by cases h), HK.out⟩
end
end Go.Proofs.YtfpcgcbehdogjaaGreatDoor
