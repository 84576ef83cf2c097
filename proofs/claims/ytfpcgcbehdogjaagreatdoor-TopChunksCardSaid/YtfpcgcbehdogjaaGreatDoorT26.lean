/-
  Lemmas on which LTopChunks rests, packed out of the texts XChD XUnu XSame XSecD; each for all arguments under the hypotheses it names.
-/
import Derived.Test.YtfpcgcbehdogjaaGreatDoorT25
import Derived.Test.YtfpcgcbehdogjaaGreatDoorT24
import Derived.Lib.AppendZeros
import Derived.WideMake
import Derived.Defers
import Derived.Recover
namespace Go.Proofs.YtfpcgcbehdogjaaGreatDoor
section
set_option maxHeartbeats 4000000
set_option maxRecDepth 100000
open Go.RowKit
theorem grow_one (w : World) : Calls Tryz.prog 214 #[.slice none 0 0, .int .i64 1] w fun e w' => ∃ v, e = .returned v ∧ w'.ownsRow w.heap.size 3 1 v 0 [] ∧ Keeps (fun _ => False) w w' := by
 obtain ⟨i0, hi, hz0, hz1, hz2⟩ := info_parts infoI
 have hG := grownCap_ge w 1 0 3
 have hG2 := grownCap_le_maxLen w 1 0 3 (by decide)
 have HG := Hj hG; have HG2 := Hj hG2
 clear hi hz0 hz1 hz2 hG hG2
 go_enter Tryz.func214, Tryz.ntmps214
 go_wp2_with fail
 go_ret
 have hs : ∀ k, (Builtin.zeroCells #[Value.int .i64 0] k).size = k := fun k => by simp [Builtin.zeroCells]
 refine ⟨_, rfl, ⟨rfl, .inr ⟨w.heap.size, _, _, rfl, Nat.le_refl _, heap_alloc_new w _, Nat.zero_le _, HG2.out, ?_, by simp⟩⟩, ((Keeps.refl (fun _ => False) w).alloc _).drew⟩
 rw [Array.size_append, hs, hs]
 have := HG.out
 simp only [grownCap] at this ⊢
 omega
theorem concat_one (b o cap : Nat) (ia : Option Addr) (ic n : Nat) (w : World) (h : w.cell? ⟨b, o, none⟩ = some (.slice ia 1 ic)) (hi : RdI w (.slice ia 1 ic) [n]) :
 Calls Tryz.prog 187 #[.slice (some ⟨b, o, none⟩) 1 cap] w fun e w' => ∃ v, e = .returned v ∧ w'.ownsRow w.heap.size 3 1 v 1 [.int .i64 (n : Int)] ∧ Keeps (fun _ => False) w w' := by
 have HG := Hj (grow_one w)
 have HI := Hj hi
 clear hi
 go_enter Tryz.func187, Tryz.ntmps187
 go_wp2_with fail
 go_loopw [3, 11] (fun c i wr => (c = .int .i64 0 ∧ i = .int .i64 0 ∨ c = .int .i64 1 ∧ i = .int .i64 1) ∧ wr = w) (fun _ i _ => 1 - (intOf i).toNat)
 case atStart => exact ⟨.inl ⟨rfl, rfl⟩, rfl⟩
 case round =>
  obtain ⟨hr, hwr⟩ := hrel
  obtain rfl := hwr.symm
  rcases hr with ⟨rfl, rfl⟩ | ⟨rfl, rfl⟩
  · go_wp2_with fail
    exact ⟨⟨.inr ⟨rfl, rfl⟩, by simp⟩, by simp [intOf]⟩
  · go_wp2_with (go_at_call 214; refine HG.out.mono ?_; rintro e w1 ⟨v1, rfl, ho1, hk1⟩)
    obtain ⟨a1, n1, rfl⟩ := qaf ho1
    have HO1 := Hj ho1; have HK1 := Hj hk1
    have c1 := hk1.cell h (fun e => e)
    have HI1 := Hj (show RdI w1 (.slice ia 1 ic) [n] from Rd.keeps HI.out hk1 (fun _ _ e => e))
    have hz1 := hk1.size
    clear ho1 hk1
    go_loopw [6, 27] (fun c i wr => (c = .slice a1 0 n1 ∧ i = .int .i64 0 ∧ wr = w1) ∨ (i = .int .i64 1 ∧ Hid (wr.ownsRow w.heap.size 3 1 c 1 [.int .i64 (n : Int)]) ∧ Hid (Keeps (fun _ => False) w wr))) (fun _ i _ => 1 - (intOf i).toNat)
    case atStart => exact .inl ⟨rfl, rfl, rfl⟩
    case round =>
     rcases hrel with ⟨rfl, rfl, hwr⟩ | ⟨rfl, HO, HK⟩
     · obtain rfl := hwr.symm
       go_wp2_with (at_builtin
                    refine appE elI rfl _ _ rfl w.heap.size _ _ 0 1 [] [.int .i64 (n : Int)] rfl rfl HO1.out HI1.out (by simp [Value.oneCell']) (by omega) hz1 ?_
                    intro v6 w6 hown6 hg6' hn6
                    have hg6 : w1.grownBy w6 (Value.slice a1 0 n1).ownBlock := hg6'
                    have HO6 := Hj hown6; have HG6 := Hj hg6
                    clear hown6 hg6' hg6 hn6)
       have k6 : Keeps (fun k => (Value.slice a1 0 n1).ownBlock = some k) w1 w6 := (Keeps.refl _ w1).grown HG6.out (fun k hk e => e)
       exact ⟨.inr ⟨rfl, HO6, Hj (HK1.out.trans k6 (fun k hk e => by have := (HO1.out.lt k e).1; omega))⟩, by simp [intOf]⟩
     · obtain ⟨a9, c9, rfl⟩ := qaf HO.out
       go_wp2_with fail
       go_ret
       exact ⟨_, rfl, HO.out, HK.out⟩
theorem fits_one (b o cap : Nat) (ia : Option Addr) (ic n : Nat) (w : World) (h : w.cell? ⟨b, o, none⟩ = some (.slice ia 1 ic)) (hi : RdI w (.slice ia 1 ic) [n]) (hn : n ≤ 1000000000) :
 Calls Tryz.prog 137 #[.int .i64 (n : Int), .slice (some ⟨b, o, none⟩) 1 cap] w fun e w' => e = .returned (.bool true) ∧ Keeps (fun _ => False) w w' := by
 have HC := Hj (concat_one b o cap ia ic n w h hi)
 clear h hi
 go_enter Tryz.func137, Tryz.ntmps137
 go_wp2_with (go_at_call 187; refine HC.out.mono ?_; rintro e w1 ⟨v1, rfl, ho1, hk1⟩; obtain ⟨g, c1, rfl⟩ := ownsRow_succ (k := 0) ho1)
 have hc := ho1.cells (g := g) rfl 0 _ rfl
 rw [qbo] at hc
 have hc' : w1.cell? ⟨g, 0, none⟩ = some (.int .i64 (n : Int)) := hc
 have HK1 := Hj hk1
 have hw0 : IntKind.i64.wrap ((n : Int) - (n : Int)) = 0 := by rw [IntWalk.i64_in _ (by omega)]; omega
 have hn0 : ¬ ((n : Int) < 0) := by omega
 clear hk1 ho1 hc HC
 go_loopw [0, 10] (fun c i wr => (c = .int .i64 (n : Int) ∧ i = .int .i64 0 ∨ c = .int .i64 0 ∧ i = .int .i64 1) ∧ wr = w1) (fun _ i _ => 1 - (intOf i).toNat)
 case atStart => exact ⟨.inl ⟨rfl, rfl⟩, rfl⟩
 case round =>
  obtain ⟨hr, hwr⟩ := hrel
  obtain rfl := hwr.symm
  rcases hr with ⟨rfl, rfl⟩ | ⟨rfl, rfl⟩
  · go_wp2_with fail
    exact ⟨⟨.inr ⟨by simp, by simp⟩, by simp⟩, by simp [intOf]⟩
  · go_wp2_with fail
    go_ret
    exact ⟨by simp, HK1.out⟩
theorem makeM1 (w : World) : (Instr.makeSlice 165 (.int .i64 1) (.int .i64 1)).run Tryz.prog w = .ok (.slice (some ⟨w.heap.size, 0, none⟩) 1 1) (w.alloc (.cells #[.slice none 0 0] 22)) := by
 obtain ⟨i0, hi, hz0, hz1, hz2⟩ := info_parts infoMs
 have := run_makeSlice (P := Tryz.prog) (w := w) 165 22 i0 (.slice none 0 0) Tryz.underlying165 hi hz0 .i64 .i64 1 1 (by omega) (by omega) (by rw [hz1]; simp) (by rw [hz2]; omega) (by omega)
 rw [hz1, show madeCells (Value.slice none 0 0).cells (Int.toNat 1 * 1) = #[.slice none 0 0] by kernel_rfl] at this
 exact this
theorem chunksdec_one (vb : Value) (b o cap : Nat) (ia : Option Addr) (ic : Nat) (smps : List Smp) (w : World) (hb : Holds w vb (u8s (chunkC smps))) (hl : (chunkC smps).length ≤ 1000000) (h : w.cell? ⟨b, o, none⟩ = some (.slice ia 1 ic)) (hi : RdI w (.slice ia 1 ic) [(chunkC smps).length]) (h1 : 1 ≤ smps.length) (h2 : smps.length ≤ 120) (hf : FitS smps) (hT : TabZ w) (hF : TabF w) :
 Calls Tryz.prog 81 #[vb, .slice (some ⟨b, o, none⟩) 1 cap] w fun e w' => ∃ v u, e = .returned (.tuple #[v, .int .i64 0]) ∧ w'.ownsRow w.heap.size 22 1 v 1 [u] ∧ w'.ownsRow w.heap.size 28 2 u smps.length (smpC smps) ∧ Keeps (fun _ => False) w w' := by
 obtain ⟨i8, hi8, hz8, hz81, hz82⟩ := info_parts infoU8
 obtain ⟨ab, nb, cb, rfl⟩ : ∃ d n p, vb = .slice d n p := by obtain ⟨d, p, h, _⟩ := hb; exact ⟨d, _, p, h⟩
 have hnb : nb = (chunkC smps).length := by obtain ⟨d, p, h, _⟩ := hb; simp only [Value.slice.injEq] at h; rw [h.2.1, qac]
 subst hnb
 have HFI := Hj (fits_one b o cap ia ic _ w h hi (by omega))
 have HDE : Hid (∀ (v : Value) (q : World), Holds q v (u8s (chunkC smps)) → Keeps (fun _ => False) w q → Calls Tryz.prog 8 #[v] q fun e w' => ∃ g, e = .returned (.tuple #[.slice (some ⟨g, 0, none⟩) smps.length smps.length, .int .i64 0]) ∧ q.heap.size ≤ g ∧ w'.heap[g]? = some (.cells (smpC smps).toArray 28 (0, 0)) ∧ Keeps (fun _ => False) q w') := Hj (fun v q hv hk => cdecode_any v smps q hv h1 h2 hf (hT.keeps hk (fun e => e)) (hF.keeps hk (fun e => e)))
 have HB := Hj hb; have HI := Hj hi
 obtain ⟨N, hN⟩ : ∃ N, N = (chunkC smps).length := ⟨_, rfl⟩
 rw [← hN] at HFI hl HB HI
 have HNN := Hj hN
 have HH := Hj h
 clear hb hi hT hF hf h
 rw [← hN]
 clear hN
 go_enter Tryz.func81, Tryz.ntmps81
 have hmm := makeM1
 go_wp2_with (go_at_call 137; refine HFI.out.mono ?_; rintro e w1 ⟨rfl, hk1⟩)
 clear hmm
 obtain ⟨W2, hW2⟩ : ∃ W2, W2 = w1.alloc (.cells #[.slice none 0 0] 22) := ⟨_, rfl⟩
 have hk2 : Keeps (fun _ => False) w W2 := by rw [hW2]; exact hk1.alloc _
 have hr2 : W2.heap[w1.heap.size]? = some (.cells #[.slice none 0 0] 22 (0, 0)) := by rw [hW2]; exact heap_alloc_new w1 _
 have hs2 : W2.heap.size = w1.heap.size + 1 := by rw [hW2]; simp
 have hz1 := hk1.size
 rw [← hW2]
 have HK2 := Hj hk2; have HR2 := Hj hr2; have HS2 := Hj hs2
 clear hk1 hk2 hr2 hs2 hW2 HFI
 go_loopw [0, 23] (fun c i wr => (c = .slice ab N cb ∧ i = .int .i64 0 ∧ wr = W2) ∨ (i = .int .i64 1 ∧ ∃ u, Hid (wr.heap[w1.heap.size]? = some (.cells #[u] 22 (0, 0))) ∧ Hid (wr.ownsRow (w1.heap.size + 1) 28 2 u smps.length (smpC smps)) ∧ Hid (Keeps (fun k => k = w1.heap.size) W2 wr))) (fun _ i _ => 1 - (intOf i).toNat)
 case atStart => exact .inl ⟨rfl, rfl, rfl⟩
 case round =>
  rcases hrel with ⟨rfl, rfl, hwr⟩ | ⟨rfl, u, HU, HO, HK⟩
  · obtain rfl := hwr.symm
    have c1 := HK2.out.cell HH.out (fun e => e)
    have hi2 : RdI W2 (.slice ia 1 ic) [N] := Rd.keeps HI.out HK2.out (fun _ _ e => e)
    obtain ⟨b2, o2, rfl, hc2⟩ := RdI.at (cap := ic) (l := [N]) hi2 (i := 0) rfl
    rw [Nat.add_zero] at hc2
    have hb2 : Holds W2 (.slice ab N cb) (u8s (chunkC smps)) := HB.out.keeps HK2.out (fun _ _ e => e)
    obtain ⟨a3, c3, e3, hh3, _⟩ := run_to (P := Tryz.prog) W2 29 5 Tryz.underlying29 hi8 hz81 hb2 .i64 N (by rw [qac, HNN.out]; exact Nat.le_refl _)
    rw [List.take_of_length_le (by rw [qac, HNN.out]; exact Nat.le_refl _)] at hh3
    have HD := Hj (HDE.out _ W2 hh3 HK2.out)
    clear hi2 hb2 hh3
    go_wp2_with fail
    go_loopw [0, 30] (fun c i wr => (c = .slice ab N cb ∧ i = .int .i64 0 ∧ wr = W2) ∨ (i = .int .i64 1 ∧ ∃ u, Hid (wr.heap[w1.heap.size]? = some (.cells #[u] 22 (0, 0))) ∧ Hid (wr.ownsRow (w1.heap.size + 1) 28 2 u smps.length (smpC smps)) ∧ Hid (Keeps (fun k => k = w1.heap.size) W2 wr))) (fun _ i _ => 1 - (intOf i).toNat)
    case atStart => exact .inl ⟨rfl, rfl, rfl⟩
    case round =>
     rcases hrel with ⟨rfl, rfl, hwr⟩ | ⟨rfl, u, HU, HO, HK⟩
     · obtain rfl := hwr.symm
       go_upto_region 16 with (first
        | (go_at_call 8
           refine HD.out.mono ?_
           rintro e w5 ⟨g, rfl, hg, hrow, hk5⟩
           have hr5 := hk5.heap HR2.out (fun e => e)
           have d0 : w5.cell? ⟨w1.heap.size, 0, none⟩ = some (.slice none 0 0) := by rw [cell_of_row _ _ _ _ _ _ hr5]; rfl
           have HROW := Hj (rdS_block hrow); have HK5 := Hj hk5; have HR5 := Hj hr5
           clear hrow hk5 hr5)
        | (at_builtin
           refine appE elM rfl _ _ rfl (w1.heap.size + 1) _ _ 0 smps.length [] (smpC smps) rfl rfl (World.ownsRow_nil _ _ _ _) HROW.out (smpC_one smps) (by omega) (by have := HK5.out.size; have := HS2.out; omega) ?_
           intro v6 w6 hown6 hg6' hn6
           have hg6 : w5.grownBy w6 none := hg6'
           have k6 : Keeps (fun _ => False) w5 w6 := (Keeps.refl (fun _ => False) w5).grown hg6 (fun k hk e => by cases e)
           have hr6 := k6.heap HR5.out (fun e => e)
           have d1 : w6.cell? ⟨w1.heap.size, 0, none⟩ = some (.slice none 0 0) := by rw [cell_of_row _ _ _ _ _ _ hr6]; rfl
           have d2 : w6.frozen? ⟨w1.heap.size, 0, none⟩ = false := frozen_of_row _ _ _ _ _ hr6
           rw [Nat.zero_add, List.nil_append] at hown6
           obtain ⟨a6, c6, rfl⟩ := qaf hown6
           have HO6 := Hj hown6; have K6 := Hj k6; have HR6 := Hj hr6
           clear hown6 hg6' hg6 hn6 k6 hr6))
       clear d0 d1 d2
       obtain ⟨W7, hW7⟩ : ∃ W7, W7 = w6.setCell ⟨w1.heap.size, 0, none⟩ (.slice a6 smps.length c6) := ⟨_, rfl⟩
       have k7 : Keeps (fun k => k = w1.heap.size) w6 W7 := by rw [hW7]; exact (Keeps.refl (fun k => k = w1.heap.size) w6).setCell (p := ⟨w1.heap.size, 0, none⟩) (fun _ => rfl) _
       have r7 : W7.heap[w1.heap.size]? = some (.cells #[.slice a6 smps.length c6] 22 (0, 0)) := by rw [hW7]; exact (heap_setCell_same w6 w1.heap.size 0 _ _ (.slice a6 smps.length c6) HR6.out).trans rfl
       have k27 : Keeps (fun k => k = w1.heap.size) W2 W7 := ((HK5.out.trans K6.out (fun _ _ e => e)).mono (S' := fun k => k = w1.heap.size) (fun _ _ e => e.elim)).trans k7 (fun _ _ e => e)
       have hb7 : Holds W7 (.slice ab N cb) (u8s (chunkC smps)) := HB.out.fresh ((HK2.out.mono (S' := fun k => w.heap.size ≤ k) (fun _ _ e => e.elim)).trans k27 (fun k hk e => by omega))
       obtain ⟨a8, c8, e8, _, _⟩ := run_from (P := Tryz.prog) W7 29 5 Tryz.underlying29 hi8 hz81 hb7 .i64 N (by rw [qac, HNN.out]; exact Nat.le_refl _)
       have hn6 : ∀ g', (Value.slice a6 smps.length c6).ownBlock = some g' → w1.heap.size + 1 ≤ g' := fun g' hg' => (HO6.out.lt g' hg').1
       have o7 := k7.row HO6.out (fun g' hg' e => by have := hn6 g' hg'; omega)
       rw [← hW7]
       have HR7 := Hj r7; have HO7 := Hj o7; have HK7 := Hj k27
       clear hW7 k7 r7 k27 hb7 o7
       go_wp2_with fail
       exact ⟨.inr ⟨rfl, _, HR7, HO7, HK7⟩, by simp [intOf]⟩
     · go_wp2_with fail
       exact ⟨.inr ⟨rfl, u, HU, HO, HK⟩, by simp [intOf]⟩
  · go_wp2_with fail
    go_ret2
    obtain ⟨a9, c9, rfl⟩ := qaf HO.out
    have hwz : w.heap.size ≤ w1.heap.size := hz1
    exact ⟨_, .slice a9 smps.length c9, rfl, ⟨rfl, .inr ⟨w1.heap.size, 1, _, rfl, hwz, HU.out, Nat.le_refl _, by decide, rfl, rfl⟩⟩, qam HO.out (fun g hg => by have := (HO.out.lt g hg).1; omega), HK2.out.trans HK.out (fun k hk e => by omega)⟩
end
section
set_option maxHeartbeats 4000000
set_option maxRecDepth 100000
open Go.RowKit
def sA : ByteArray := ⟨#[97]⟩
def s1 : ByteArray := ⟨#[49]⟩
theorem updA {w : World} {M : Nat} (hM : w.heap[M]? = some (.map #[] 0)) : (Instr.mapUpdate 249 (.map (some M)) (.string sA) (.bool true)).run Tryz.prog w = .ok () (w.putObj M (.map #[⟨.string sA, .bool true, 0⟩] 1)) := by
 have hf : Instr.findNow .string (.string sA) ([] : List MapEntry) 0 = some none := rfl
 have hc : (Instr.checkKey false 10000 9 (.string sA)).run Tryz.prog w = .ok () w := MapKept.run_checkKey (k := .string sA) Tryz.underlying9 (by simp [MapKept.IsKey]) false 9999
 simp [Instr.mapUpdate, run_underlying Tryz.underlying249, MapKept.run_getObj_map hM, hc, MapKept.run_findKey Tryz.underlying9 hf, MapKept.run_setObj_map _ hM, Result.andThen, World.putObj]
theorem upd1 {w : World} {M : Nat} (hM : w.heap[M]? = some (.map #[⟨.string sA, .bool true, 0⟩] 1)) : (Instr.mapUpdate 249 (.map (some M)) (.string s1) (.bool true)).run Tryz.prog w = .ok () (w.putObj M (.map #[⟨.string sA, .bool true, 0⟩, ⟨.string s1, .bool true, 1⟩] 2)) := by
 have hf : Instr.findNow .string (.string s1) ([⟨.string sA, .bool true, 0⟩] : List MapEntry) 0 = some none := by kernel_rfl
 have hc : (Instr.checkKey false 10000 9 (.string s1)).run Tryz.prog w = .ok () w := MapKept.run_checkKey (k := .string s1) Tryz.underlying9 (by simp [MapKept.IsKey]) false 9999
 simp [Instr.mapUpdate, run_underlying Tryz.underlying249, MapKept.run_getObj_map hM, hc, MapKept.run_findKey Tryz.underlying9 hf, MapKept.run_setObj_map _ hM, Result.andThen, World.putObj]
theorem lookA {w : World} {M : Nat} (hM : w.heap[M]? = some (.map #[⟨.string sA, .bool true, 0⟩, ⟨.string s1, .bool true, 1⟩] 2)) : (Instr.lookup 249 (.map (some M)) (.string sA) false).run Tryz.prog w = .ok (.bool true) w := by
 have hf : Instr.findNow .string (.string sA) ([⟨.string sA, .bool true, 0⟩, ⟨.string s1, .bool true, 1⟩] : List MapEntry) 0 = some (some (0, .bool true)) := by kernel_rfl
 have hc : (Instr.checkKey false 10000 9 (.string sA)).run Tryz.prog w = .ok () w := MapKept.run_checkKey (k := .string sA) Tryz.underlying9 (by simp [MapKept.IsKey]) false 9999
 simp [Instr.lookup, run_underlying Tryz.underlying249, MapKept.run_getObj_map hM, hc, MapKept.run_findKey Tryz.underlying9 hf, Result.andThen]
theorem look1 {w : World} {M : Nat} (hM : w.heap[M]? = some (.map #[⟨.string sA, .bool true, 0⟩, ⟨.string s1, .bool true, 1⟩] 2)) : (Instr.lookup 249 (.map (some M)) (.string s1) false).run Tryz.prog w = .ok (.bool true) w := by
 have hf : Instr.findNow .string (.string s1) ([⟨.string sA, .bool true, 0⟩, ⟨.string s1, .bool true, 1⟩] : List MapEntry) 0 = some (some (1, .bool true)) := by kernel_rfl
 have hc : (Instr.checkKey false 10000 9 (.string s1)).run Tryz.prog w = .ok () w := MapKept.run_checkKey (k := .string s1) Tryz.underlying9 (by simp [MapKept.IsKey]) false 9999
 simp [Instr.lookup, run_underlying Tryz.underlying249, MapKept.run_getObj_map hM, hc, MapKept.run_findKey Tryz.underlying9 hf, Result.andThen]
theorem unused_small (tb0 to0 tc rb ro rc : Nat) (la : Option Addr) (lc : Nat) (ia : Option Addr) (ic : Nat) (w : World) (t1 : w.cell? ⟨tb0, to0, none⟩ = some (.string s1)) (t2 : w.cell? ⟨tb0, to0 + 1, none⟩ = some (.string sA)) (r1 : w.cell? ⟨rb, ro, none⟩ = some (.slice la 1 lc)) (r2 : w.cell? ⟨rb, ro + 1, none⟩ = some (.slice ia 1 ic)) (hL : RdL w (.slice la 1 lc) [(sA, s1)]) :
 Calls Tryz.prog 78 #[.slice (some ⟨tb0, to0, none⟩) 2 tc, .slice (some ⟨rb, ro, none⟩) 1 rc] w fun e w' => e = .returned (.int .i64 (-1)) ∧ Keeps (fun _ => False) w w' := by
 obtain ⟨W1, hW1⟩ : ∃ W1, W1 = w.alloc (.map #[] 0) := ⟨_, rfl⟩
 have hk1 : Keeps (fun _ => False) w W1 := by rw [hW1]; exact (Keeps.refl _ _).alloc _
 have hm1 : W1.heap[w.heap.size]? = some (.map #[] 0) := by rw [hW1]; exact heap_alloc_new w _
 have HW1 := Hj hW1; have HK1 := Hj hk1; have HM1 := Hj hm1; have HL := Hj hL
 have T1 := Hj t1; have T2 := Hj t2; have R1 := Hj r1; have R2 := Hj r2
 clear hW1 hk1 hm1 hL t1 t2 r1 r2
 go_enter Tryz.func78, Tryz.ntmps78
 have hmk : (Instr.makeMap 249 none).run Tryz.prog w = .ok (.map (some w.heap.size)) W1 := (run_makeMap_plain w 249).trans (by rw [HW1.out])
 go_wp2_with fail
 clear hmk
 go_loopw [15] (fun i wr => (i = .int .i64 0 ∧ wr = W1) ∨ (i = .int .i64 1 ∧ Hid (wr.heap[w.heap.size]? = some (.map #[⟨.string sA, .bool true, 0⟩, ⟨.string s1, .bool true, 1⟩] 2)) ∧ Hid (Keeps (fun k => k = w.heap.size) W1 wr))) (fun i _ => 1 - (intOf i).toNat)
 case atStart => exact .inl ⟨rfl, rfl⟩
 case round =>
  rcases hrel with ⟨rfl, hwr⟩ | ⟨rfl, HM, HK⟩
  · obtain rfl := hwr.symm
    have x1 := HK1.out.cell R1.out (fun e => e)
    have x2 := HK1.out.cell R2.out (fun e => e)
    obtain ⟨W2, hW2⟩ : ∃ W2, W2 = W1.alloc (.cells #[.slice la 1 lc, .slice ia 1 ic] 127) := ⟨_, rfl⟩
    have hk2 : Keeps (fun _ => False) W1 W2 := by rw [hW2]; exact (Keeps.refl _ _).alloc _
    have hr2 : W2.heap[W1.heap.size]? = some (.cells #[.slice la 1 lc, .slice ia 1 ic] 127 (0, 0)) := by rw [hW2]; exact heap_alloc_new W1 _
    have hz1 := qap HM1.out
    have HLS := Hj (lstr_any (.slice la 1 lc) [(sA, s1)] W2 (HL.out.below (HK1.out.trans hk2 (fun _ _ e => e)).toBelow) (by decide))
    have HW2 := Hj hW2; have HK2 := Hj hk2; have HR2 := Hj hr2
    clear hW2 hk2 hr2
    go_upto_region 5 with fail
    rw [← HW2.out]
    have y1 : W2.cell? ⟨W1.heap.size, 0, none⟩ = some (.slice la 1 lc) := by rw [cell_of_row _ _ _ _ _ _ HR2.out]; rfl
    go_wp2_with (go_at_call 120
                 refine HLS.out.mono ?_
                 rintro e w3 ⟨v3, rfl, ho3, hb3⟩
                 obtain ⟨g, c3, rfl⟩ := ownsRow_succ (k := 1) ho3)
    have hk3 : Keeps (fun _ => False) W1 w3 := HK2.out.trans hb3.toKeeps (fun _ _ e => e)
    have q1 := ho3.cells (g := g) rfl 0 (.string sA) rfl
    have q2 := ho3.cells (g := g) rfl 1 (.string s1) rfl
    rw [qbo] at q1 q2
    have Q1 : Hid (w3.cell? ⟨g, 0, none⟩ = some (.string sA)) := Hj q1
    have Q2 : Hid (w3.cell? ⟨g, 1, none⟩ = some (.string s1)) := Hj q2
    have hgM : w.heap.size ≠ g := by have := (ho3.lt g rfl).1; have := HK2.out.size; omega
    have hm3 := hk3.heap HM1.out (fun e => e)
    obtain ⟨W4, hW4⟩ : ∃ W4, W4 = w3.putObj w.heap.size (.map #[⟨.string sA, .bool true, 0⟩] 1) := ⟨_, rfl⟩
    have hm4 : W4.heap[w.heap.size]? = some (.map #[⟨.string sA, .bool true, 0⟩] 1) := by rw [hW4]; exact World.putObj_heap_same (qap hm3)
    have hk4 : Keeps (fun k => k = w.heap.size) w3 W4 := by rw [hW4]; exact Keeps.putObj _ _ _ rfl
    obtain ⟨W5, hW5⟩ : ∃ W5, W5 = W4.putObj w.heap.size (.map #[⟨.string sA, .bool true, 0⟩, ⟨.string s1, .bool true, 1⟩] 2) := ⟨_, rfl⟩
    have hm5 : W5.heap[w.heap.size]? = some (.map #[⟨.string sA, .bool true, 0⟩, ⟨.string s1, .bool true, 1⟩] 2) := by rw [hW5]; exact World.putObj_heap_same (qap hm4)
    have hk5 : Keeps (fun k => k = w.heap.size) W4 W5 := by rw [hW5]; exact Keeps.putObj _ _ _ rfl
    have U1 : Hid ((Instr.mapUpdate 249 (.map (some w.heap.size)) (.string sA) (.bool true)).run Tryz.prog w3 = .ok () W4) := Hj (by rw [hW4]; exact updA hm3)
    have U2 : Hid ((Instr.mapUpdate 249 (.map (some w.heap.size)) (.string s1) (.bool true)).run Tryz.prog W4 = .ok () W5) := Hj (by rw [hW5]; exact upd1 hm4)
    have Q3 := Hj (hk4.cell Q2.out (fun e => hgM e.symm))
    have HM5 := Hj hm5
    have HK5 := Hj ((hk3.mono (S' := fun k => k = w.heap.size) (fun _ _ e => e.elim)).trans (hk4.trans hk5 (fun _ _ e => e)) (fun _ _ e => e))
    clear hW4 hW5 hm3 hm4 hm5 hk3 hk4 hk5 q1 q2 y1 x1 x2 ho3 hb3 HLS
    go_loopw [23] (fun i wr => (i = .int .i64 0 ∧ wr = w3) ∨ (i = .int .i64 1 ∧ wr = W4) ∨ (i = .int .i64 2 ∧ wr = W5)) (fun i _ => 2 - (intOf i).toNat)
    case atStart => exact .inl ⟨rfl, rfl⟩
    case round =>
     rcases hrel with ⟨rfl, hwr⟩ | ⟨rfl, hwr⟩ | ⟨rfl, hwr⟩
     · obtain rfl := hwr.symm
       have q1 := Q1.out
       have u1 := U1.out
       go_wp2_with fail
       exact ⟨.inr (.inl ⟨by simp, by simp⟩), by simp [intOf]⟩
     · obtain rfl := hwr.symm
       have q1 := Q3.out
       have u1 := U2.out
       go_wp2_with fail
       exact ⟨.inr (.inr ⟨by simp, by simp⟩), by simp [intOf]⟩
     · obtain rfl := hwr.symm
       go_wp2_with fail
       exact ⟨.inr ⟨rfl, HM5, HK5⟩, by simp [intOf]⟩
  · have t1 := HK.out.cell (HK1.out.cell T1.out (fun e => e)) (by have := World.block_lt_of_cell? w _ T1.out; simp only at this ⊢; omega)
    have t2 := HK.out.cell (HK1.out.cell T2.out (fun e => e)) (by have := World.block_lt_of_cell? w _ T2.out; simp only at this ⊢; omega)
    have la1 := look1 HM.out
    have laA := lookA HM.out
    go_wp2_with fail
    go_loopw [33] (fun i w' => (i = .int .i64 0 ∨ i = .int .i64 1 ∨ i = .int .i64 2) ∧ w' = wr) (fun i _ => 2 - (intOf i).toNat)
    case atStart => exact ⟨.inl rfl, rfl⟩
    case round =>
     obtain ⟨hi, hwr⟩ := hrel
     subst hwr
     rcases hi with rfl | rfl | rfl
     · go_wp2_with fail
       exact ⟨⟨.inr (.inl rfl), by simp⟩, by simp [intOf]⟩
     · go_wp2_with fail
       exact ⟨⟨.inr (.inr rfl), by simp⟩, by simp [intOf]⟩
     · go_wp2_with fail
       go_ret
       exact ⟨rfl, HK1.out.trans HK.out (fun k hk e => by omega)⟩
end
section
set_option maxHeartbeats 4000000
set_option maxRecDepth 100000
open Go.RowKit
theorem same1_ok (x : Lab) (b1 o1 c1 b2 o2 c2 : Nat) (w : World) (h1 : w.cell? ⟨b1, o1, none⟩ = some (.int .i64 0)) (h2 : w.cell? ⟨b2, o2, none⟩ = some (.int .i64 0)) :
 Calls Tryz.prog 139 #[.agg #[.string x.1, .string x.2, .slice (some ⟨b1, o1, none⟩) 1 c1], .agg #[.string x.1, .string x.2, .slice (some ⟨b2, o2, none⟩) 1 c2]] w fun e w' => e = .returned (.bool true) ∧ Keeps (fun _ => False) w w' := by
 have HE : Hid (∀ q, Keeps (fun _ => False) w q → Calls Tryz.prog 140 #[.slice (some ⟨b1, o1, none⟩) 1 c1, .slice (some ⟨b2, o2, none⟩) 1 c2] q fun e w' => e = .returned (.bool true) ∧ ∃ n, w' = q.drewN n) := Hj (fun q hq => by
  have := Tryz.slices_Equal_int b1 o1 1 c1 b2 o2 1 c2 [0] [0] q (by decide) (by decide) (by decide) (by decide) (fun j hj => (by simpa using hj : j = 0) ▸ hq.cell h1 (fun e => e)) (fun j hj => (by simpa using hj : j = 0) ▸ hq.cell h2 (fun e => e))
  exact this)
 clear h1 h2
 go_enter Tryz.func139, Tryz.ntmps139
 go_wp2_with (go_at_call 140; refine (HE.out _ (((Keeps.refl (fun _ => False) w).alloc _).alloc _)).mono ?_; rintro e w1 ⟨rfl, n, hw1⟩)
 go_ret
 exact ⟨rfl, (((Keeps.refl (fun _ => False) w).alloc _).alloc _).drewN n⟩
theorem eqfunc_one (x : Lab) (a1 p1 d1 a2 p2 d2 b1 o1 c1 b2 o2 c2 : Nat) (w : World) (e1 : w.cell? ⟨a1, p1, none⟩ = some (.string x.1)) (e2 : w.cell? ⟨a1, p1 + 1, none⟩ = some (.string x.2)) (e3 : w.cell? ⟨a1, p1 + 2, none⟩ = some (.slice (some ⟨b1, o1, none⟩) 1 c1))
 (f1 : w.cell? ⟨a2, p2, none⟩ = some (.string x.1)) (f2 : w.cell? ⟨a2, p2 + 1, none⟩ = some (.string x.2)) (f3 : w.cell? ⟨a2, p2 + 2, none⟩ = some (.slice (some ⟨b2, o2, none⟩) 1 c2)) (h1 : w.cell? ⟨b1, o1, none⟩ = some (.int .i64 0)) (h2 : w.cell? ⟨b2, o2, none⟩ = some (.int .i64 0)) :
 Calls Tryz.prog 138 #[.slice (some ⟨a1, p1, none⟩) 1 d1, .slice (some ⟨a2, p2, none⟩) 1 d2, .func (.func 139) #[] #[]] w fun e w' => e = .returned (.bool true) ∧ Keeps (fun _ => False) w w' := by
 obtain ⟨x1, x2⟩ := x
 obtain ⟨W1, hW1⟩ : ∃ W1, W1 = w.alloc (.cells #[.string x1, .string x2, .slice (some ⟨b1, o1, none⟩) 1 c1] 229) := ⟨_, rfl⟩
 have hk1 : Keeps (fun _ => False) w W1 := by rw [hW1]; exact (Keeps.refl _ _).alloc _
 have HS : Hid (∀ q, Keeps (fun _ => False) w q → Calls Tryz.prog 139 #[.agg #[.string x1, .string x2, .slice (some ⟨b1, o1, none⟩) 1 c1], .agg #[.string x1, .string x2, .slice (some ⟨b2, o2, none⟩) 1 c2]] q fun e w' => e = .returned (.bool true) ∧ Keeps (fun _ => False) q w') := Hj (fun q hq => same1_ok (x1, x2) b1 o1 c1 b2 o2 c2 q (hq.cell h1 (fun e => e)) (hq.cell h2 (fun e => e)))
 have HF1 := Hj f1; have HF2 := Hj f2; have HF3 := Hj f3
 clear h1 h2 f1 f2 f3 hW1 hk1 W1
 go_enter Tryz.func138, Tryz.ntmps138
 go_wp2_with fail
 go_loopw [17] (fun i wr => (i = .int .i64 0 ∧ wr = w) ∨ (i = .int .i64 1 ∧ Hid (Keeps (fun _ => False) w wr))) (fun i _ => 1 - (intOf i).toNat)
 case atStart => exact .inl ⟨rfl, rfl⟩
 case round =>
  rcases hrel with ⟨rfl, hwr⟩ | ⟨rfl, HK⟩
  · obtain rfl := hwr.symm
    go_upto_region 6 with fail
    obtain ⟨W1, hW1⟩ : ∃ W1, W1 = w.alloc (.cells #[.string x1, .string x2, .slice (some ⟨b1, o1, none⟩) 1 c1] 229) := ⟨_, rfl⟩
    have hk1 : Keeps (fun _ => False) w W1 := by rw [hW1]; exact (Keeps.refl _ _).alloc _
    have hr1 : W1.heap[w.heap.size]? = some (.cells #[.string x1, .string x2, .slice (some ⟨b1, o1, none⟩) 1 c1] 229 (0, 0)) := by rw [hW1]; exact heap_alloc_new w _
    rw [← hW1]
    have f1 := hk1.cell HF1.out (fun e => e); have f2 := hk1.cell HF2.out (fun e => e); have f3 := hk1.cell HF3.out (fun e => e)
    have HK1 := Hj hk1; have HR1 := Hj hr1
    clear hW1 hk1 hr1
    go_upto_region 7 with fail
    clear f1 f2 f3
    obtain ⟨W2, hW2⟩ : ∃ W2, W2 = W1.alloc (.cells #[.string x1, .string x2, .slice (some ⟨b2, o2, none⟩) 1 c2] 229) := ⟨_, rfl⟩
    have hk2 : Keeps (fun _ => False) W1 W2 := by rw [hW2]; exact (Keeps.refl _ _).alloc _
    have hr2 : W2.heap[W1.heap.size]? = some (.cells #[.string x1, .string x2, .slice (some ⟨b2, o2, none⟩) 1 c2] 229 (0, 0)) := by rw [hW2]; exact heap_alloc_new W1 _
    rw [← hW2]
    have HR2 := Hj hr2; have HR12 := Hj (hk2.heap HR1.out (fun e => e)); have HK2 := Hj (HK1.out.trans hk2 (fun _ _ e => e))
    clear hW2 hk2 hr2
    go_wp2_with (first
     | (refine wpList_load_row rfl 229 _ rfl w.heap.size rfl 229 _ (0, 0) _ HR12.out Tryz.underlying229 rfl (by kernel_rfl) ?_)
     | (refine wpList_load_row rfl 229 _ rfl W1.heap.size rfl 229 _ (0, 0) _ HR2.out Tryz.underlying229 rfl (by kernel_rfl) ?_)
     | (go_at_call 139; refine (HS.out _ HK2.out).mono ?_; rintro e w3 ⟨rfl, hk3⟩))
    exact ⟨.inr ⟨rfl, Hj (HK2.out.trans hk3 (fun _ _ e => e))⟩, by simp [intOf]⟩
  · go_wp2_with fail
    go_ret
    exact ⟨rfl, HK.out⟩
theorem sameindex_one (x : Lab) (v1 v2 : Value) (h1 h2 : EntH) (w : World) (e1 : RdE w v1 [h1] [(x, [0])]) (e2 : RdE w v2 [h2] [(x, [0])]) :
 Calls Tryz.prog 82 #[v1, v2] w fun e w' => e = .returned (.bool true) ∧ Keeps (fun _ => False) w w' := by
 have key : ∀ (v : Value) (h : EntH), RdE w v [h] [(x, [0])] → ∃ a p d b o c, v = .slice (some ⟨a, p, none⟩) 1 d ∧ w.cell? ⟨a, p, none⟩ = some (.string x.1) ∧ w.cell? ⟨a, p + 1, none⟩ = some (.string x.2) ∧ w.cell? ⟨a, p + 2, none⟩ = some (.slice (some ⟨b, o, none⟩) 1 c) ∧ w.cell? ⟨b, o, none⟩ = some (.int .i64 0) := fun v h e => by
  obtain ⟨ad, cap, rfl, _⟩ := Rd.slice e.2.1
  obtain ⟨a, p, rfl, q1, q2, q3⟩ := RdE.at (hs := [h]) e (i := 0) rfl
  obtain ⟨hl, hi⟩ := e.2.2 0 h (x, [0]) rfl rfl
  obtain ⟨hx, sa, sn, sc⟩ := h
  have hl' : hx = x := hl
  subst hl'
  have hi' : RdI w (.slice sa sn sc) [0] := hi
  have en : sn = 1 := by obtain ⟨_, _, _, hv, _⟩ := hi'; simp only [Value.slice.injEq] at hv; exact hv.2.1
  subst en
  obtain ⟨b, o, rfl, c0⟩ := RdI.at (l := [0]) hi' (i := 0) rfl
  refine ⟨a, p, cap, b, o, sc, rfl, ?_, ?_, ?_, c0⟩
  · simpa using q1
  · simpa using q2
  · simpa [EntH.sv] using q3
 obtain ⟨a1, p1, d1, b1, o1, c1, rfl, x1, x2, x3, x4⟩ := key v1 h1 e1
 obtain ⟨a2, p2, d2, b2, o2, c2, rfl, y1, y2, y3, y4⟩ := key v2 h2 e2
 have HEQ := Hj (eqfunc_one x a1 p1 d1 a2 p2 d2 b1 o1 c1 b2 o2 c2 w x1 x2 x3 y1 y2 y3 x4 y4)
 clear key x1 x2 x3 x4 y1 y2 y3 y4 e1 e2
 go_enter Tryz.func82, Tryz.ntmps82
 go_wp2_with (go_at_call 138; refine HEQ.out.mono ?_; rintro e w1 ⟨rfl, hk1⟩)
 go_ret
 exact ⟨rfl, hk1⟩
end
section
set_option maxHeartbeats 4000000
set_option maxRecDepth 100000
open Go.RowKit Go.Shelf
def tbS : List ByteArray := [s1, sA]
def xS : Lab := (sA, s1)
def posS (s : ByteArray) : Nat := if s = s1 then 0 else 1
def mS : List Smp := [(1, 2)]
theorem rd_before (w : World) (o : Obj) (k m : Nat) (cs : List Value) (te : TypeId) (c : Nat) (hl : cs.length = m * k) (hc : m ≤ c) : Rd k ((w.alloc (.cells cs.toArray te)).alloc o) (.slice (some ⟨w.heap.size, 0, none⟩) m c) m cs :=
 Rd.keeps (rd_new w k m cs te c hl hc) ((Keeps.refl (fun _ => False) _).alloc o) (fun _ _ e => e)
theorem rd_before_d (w : World) (o : Obj) (k m : Nat) (cs : List Value) (te : TypeId) (c : Nat) (hl : cs.length = m * k) (hc : m ≤ c) : Rd k ((w.alloc (.cells cs.toArray te)).alloc o).drew (.slice (some ⟨w.heap.size, 0, none⟩) m c) m cs :=
 Rd.keeps (rd_before w o k m cs te c hl hc) (Keeps.refl (fun _ => False) _).drew (fun _ _ e => e)
theorem rd_next_d (w : World) (o : Obj) (k m : Nat) (cs : List Value) (te : TypeId) (c : Nat) (hl : cs.length = m * k) (hc : m ≤ c) : Rd k ((w.alloc o).alloc (.cells cs.toArray te)).drew (.slice (some ⟨w.heap.size + 1, 0, none⟩) m c) m cs :=
 Rd.keeps (rd_next w o k m cs te c hl hc) (Keeps.refl (fun _ => False) _).drew (fun _ _ e => e)
theorem qbh {S : Nat → Prop} {a b c : World} (h : Keeps S a b) (hg : b.grownBy c none) : Keeps S a c := h.grown hg (fun k hk e => by cases e)
def onlyN (Q : Exit → Act → World → Prop) : Exit → Act → World → Prop
 | .normal, a, w => Q .normal a w
 | _, _, _ => False
theorem wp_onlyN {P : Program} {c : Code} {Q : Exit → Act → World → Prop} {a : Act} {w : World} (h : c.wp P (onlyN Q) a w) : c.wp P Q a w := wp_mono h (fun e a w h => by
 cases e <;> first | exact h | exact False.elim h)
theorem door_ok (p q : Value) (w : World) : CallsD Tryz.prog 72 #[p, q] .returning w fun e u' w' => e = .returned (.tuple #[]) ∧ u' = .returning ∧ w' = w := by
 refine callsD_of_wpS Tryz.func72 rfl fun c₀ cs hu => ?_
 apply wpS_region
 simp [wpOpsS, go_sem, recoverD, hu, Tryz.ntmps72]
 refine (caught_ok p q w).mono ?_
 rintro e w' ⟨rfl, rfl⟩
 cases c₀
 simp_all [bodyPostS, results, Tryz.results72]
theorem fitS : FitS mS := fun x hx => by
 simp only [mS, List.mem_singleton] at hx
 subst hx
 refine ⟨by simp [inI], by decide, by decide⟩
theorem keyS : ∃ kl, keyOf Tryz.prog 94 (oneL xS) = some kl := Option.isSome_iff_exists.1 (by kernel_rfl)
theorem sym_vals : vgo 0 0 [2, 1, 49, 1, 97] = (tbS.length, 1, 0) := by kernel_rfl
theorem sym_rd : ∀ i, i < tbS.length → rdStr ([2, 1, 49, 1, 97].drop 1) (2 * i) 0 65535 = ([([49] : List Nat), [97]].getD i [], 2 * (i + 1), 0) := fun i hi => by
 have : i = 0 ∨ i = 1 := by simp [tbS] at hi; omega
 rcases this with rfl | rfl <;> first | rfl | decide
theorem sym_tb : ∀ i, i < tbS.length → tbS[i]? = some (strN ([([49] : List Nat), [97]].getD i [])) := fun i hi => by
 have : i = 0 ∨ i = 1 := by simp [tbS] at hi; omega
 rcases this with rfl | rfl <;> first | rfl | decide
theorem sym_asc : ∀ i x y, tbS[i]? = some x → tbS[i + 1]? = some y → Op.bytesLess x.toList y.toList = true := fun i x y hx hy => by
 cases i with
 | zero => simp [tbS] at hx hy; subst hx hy; kernel_rfl
 | succ i => simp [tbS] at hy
theorem secdec_small (v0 v1 v2 v3 : Value) (w : World) (h0 : Holds w v0 (u8s [2, 1, 49, 1, 97])) (h1 : Holds w v1 (u8s [1, 1, 1, 0, 1, 18])) (h2 : Holds w v2 (u8s (chunkC mS))) (h3 : Holds w v3 (u8s [1, 1, 0, 1, 0])) (hT : TabZ w) (hF : TabF w) :
 Calls Tryz.prog 36 #[.agg #[v0, v1, v2, v3]] w fun e w' => ∃ v hd, e = .returned (.tuple #[v, .int .i64 0]) ∧ RdB w' v [hd] [([xS], mS)] ∧ Keeps (fun _ => False) w w' := by
 obtain ⟨a0, n0, c0, rfl⟩ : ∃ d n p, v0 = .slice d n p := by obtain ⟨d, p, h, _⟩ := h0; exact ⟨d, _, p, h⟩
 obtain ⟨a1, n1, c1, rfl⟩ : ∃ d n p, v1 = .slice d n p := by obtain ⟨d, p, h, _⟩ := h1; exact ⟨d, _, p, h⟩
 obtain ⟨a2, n2, c2, rfl⟩ : ∃ d n p, v2 = .slice d n p := by obtain ⟨d, p, h, _⟩ := h2; exact ⟨d, _, p, h⟩
 obtain ⟨a3, n3, c3, rfl⟩ : ∃ d n p, v3 = .slice d n p := by obtain ⟨d, p, h, _⟩ := h3; exact ⟨d, _, p, h⟩
 have hmf : ∀ (fn : Fn) (first cap : Array Value) (w : World), (Instr.makeFunc fn first cap).run Tryz.prog w = .ok (.func fn first cap) w := fun _ _ _ _ => rfl
 go_enter_defers Tryz.func36, Tryz.ntmps36
 go_upto_region 2 with fail
 obtain ⟨W0, hW0⟩ : ∃ W0, W0 = ((w.alloc (.cells #[.slice a0 n0 c0, .slice a1 n1 c1, .slice a2 n2 c2, .slice a3 n3 c3] 75)).alloc (.cells #[.slice none 0 0] 37)).alloc (.cells #[.int .i64 0] 30) := ⟨_, rfl⟩
 have hk0 : Keeps (fun _ => False) w W0 := by rw [hW0]; exact (((Keeps.refl _ _).alloc _).alloc _).alloc _
 have hz0 : W0.heap.size = w.heap.size + 3 := by rw [hW0]; simp
 have hp0 : W0.heap[w.heap.size]? = some (.cells #[.slice a0 n0 c0, .slice a1 n1 c1, .slice a2 n2 c2, .slice a3 n3 c3] 75 (0, 0)) := by rw [hW0]; exact heap_alloc _ (heap_alloc _ (heap_alloc_new w _))
 have hq0 : W0.heap[w.heap.size + 1]? = some (.cells #[.slice none 0 0] 37 (0, 0)) := by
  rw [hW0]
  have := heap_alloc_new (w.alloc (.cells #[.slice a0 n0 c0, .slice a1 n1 c1, .slice a2 n2 c2, .slice a3 n3 c3] 75)) (.cells #[.slice none 0 0] 37)
  rw [World.size_alloc] at this
  exact heap_alloc _ this
 have hr0 : W0.heap[w.heap.size + 2]? = some (.cells #[.int .i64 0] 30 (0, 0)) := by
  rw [hW0]
  have := heap_alloc_new ((w.alloc (.cells #[.slice a0 n0 c0, .slice a1 n1 c1, .slice a2 n2 c2, .slice a3 n3 c3] 75)).alloc (.cells #[.slice none 0 0] 37)) (.cells #[.int .i64 0] 30)
  rw [World.size_alloc, World.size_alloc] at this
  exact this
 rw [← hW0]
 have HS := Hj (symdec_any tbS (fun i => 2 * i) (fun i => [([49] : List Nat), [97]].getD i []) (h0.keeps hk0 (fun _ _ e => e)) (by decide) (by decide) sym_vals (by decide) (by decide) rfl sym_rd sym_tb sym_asc (by decide))
 have d0 : W0.cell? ⟨w.heap.size, 0, none⟩ = some (.slice a0 n0 c0) := by rw [cell_of_row _ _ _ _ _ _ hp0]; rfl
 have HK0 := Hj hk0; have HZ0 := Hj hz0; have HP0 := Hj hp0; have HQ0 := Hj hq0; have HR0 := Hj hr0
 have H1 := Hj h1; have H2 := Hj h2; have H3 := Hj h3; have HTZ := Hj hT; have HTF := Hj hF
 clear hW0 hk0 hz0 hp0 hq0 hr0 h0 h1 h2 h3 hT hF hmf
 have hmu := mustT_ok
 go_upto_region 3 with (first
  | (go_at_call 75; refine HS.out.mono ?_; rintro e w1 ⟨v4, rfl, ho4, hk1⟩; obtain ⟨g4, c4, rfl⟩ := ownsRow_succ (k := 1) ho4)
  | (go_at_call 74; refine (hmu _ _).mono ?_; rintro e wq ⟨rfl, hwq⟩; obtain rfl := hwq.symm))
 clear hmu d0 HS
 have hmr := mustR_ok
 have ht1 : RdT w1 (.slice (some ⟨g4, 0, none⟩) tbS.length c4) tbS := rd_row ho4
 have HT1 := Hj ht1
 have HRD := Hj (recdec_one (i := 1) (j := 2) (k := 1) (j2 := 3) (k2 := 0) (j3 := 4) (j4 := 5) (n := 18) (s := sA) (s2 := s1) ht1 (H1.out.keeps (HK0.out.trans hk1 (fun _ _ e => e)) (fun _ _ e => e)) (by decide) (by decide) (by kernel_rfl) (by decide) (by kernel_rfl) (by decide) (by kernel_rfl) rfl (by kernel_rfl) rfl (by decide) (by kernel_rfl) (by decide) (by kernel_rfl) (by decide) (by decide))
 have d1 : w1.cell? ⟨w.heap.size, 1, none⟩ = some (.slice a1 n1 c1) := by rw [cell_of_row _ _ _ _ _ _ (hk1.heap HP0.out (fun e => e))]; rfl
 have HK1 := Hj hk1; have HO4 := Hj ho4
 clear hk1 ho4 ht1
 go_upto_region 4 with (first
  | (go_at_call 77; refine HRD.out.mono ?_; rintro e w2 ⟨v5, l5, i5, rfl, ho5, hl5, hi5, hk2⟩; obtain ⟨g5, c5, rfl⟩ := ownsRow_succ (k := 0) ho5)
  | (go_at_call 76; refine (hmr _ _).mono ?_; rintro e wq ⟨rfl, hwq⟩; obtain rfl := hwq.symm))
 clear hmr d1 HRD
 obtain ⟨la, lc, rfl⟩ := qaf hl5
 obtain ⟨ia, ic, rfl⟩ := qaf hi5
 have ho4b := hk2.row HO4.out (fun _ _ e => e)
 have t1 := ho4b.cells (g := g4) rfl 0 _ rfl
 have t2 := ho4b.cells (g := g4) rfl 1 _ rfl
 have r1 := ho5.cells (g := g5) rfl 0 _ rfl
 have r2 := ho5.cells (g := g5) rfl 1 _ rfl
 rw [qbo] at t1 t2 r1 r2
 have HUN := Hj (unused_small g4 0 c4 g5 0 c5 la lc ia ic w2 t1 t2 r1 r2 (rd_row hl5))
 have HK2 := Hj hk2; have HO5 := Hj ho5; have HL5 := Hj hl5; have HI5 := Hj hi5
 clear t1 t2 r1 r2 ho4b hk2 ho5 hl5 hi5
 go_wp2_with (go_at_call 78; refine HUN.out.mono ?_; rintro e w3 ⟨rfl, hk3⟩)
 have HK3 := Hj hk3
 clear hk3 HUN
 go_loopw [6, 7, 33] (fun c d i wr => (c = .slice none 0 0 ∧ d = .slice none 0 0 ∧ i = .int .i64 0 ∧ wr = w3) ∨ (i = .int .i64 1 ∧ Hid (wr.ownsRow W0.heap.size 125 1 c 1 [.slice ia 1 ic]) ∧ Hid (wr.ownsRow W0.heap.size 95 1 d 1 [.slice la 1 lc]) ∧ Hid (Keeps (fun _ => False) w3 wr))) (fun _ _ i _ => 1 - (intOf i).toNat)
 case atStart => exact .inl ⟨rfl, rfl, rfl, rfl⟩
 case round =>
  rcases hrel with ⟨rfl, rfl, rfl, hwr⟩ | ⟨rfl, HC6, HC7, HKr⟩
  · obtain rfl := hwr.symm
    have ho5b := HK3.out.row HO5.out (fun _ _ e => e)
    have r1 := ho5b.cells (g := g5) rfl 0 _ rfl
    have r2 := ho5b.cells (g := g5) rfl 1 _ rfl
    rw [qbo] at r1 r2
    have r1' : w3.cell? ⟨g5, 0, none⟩ = some (.slice la 1 lc) := r1
    have r2' : w3.cell? ⟨g5, 1, none⟩ = some (.slice ia 1 ic) := r2
    clear r1 r2 ho5b
    go_upto_region 11 with fail
    clear r1' r2'
    obtain ⟨W4, hW4⟩ : ∃ W4, W4 = w3.alloc (.cells #[.slice la 1 lc, .slice ia 1 ic] 127) := ⟨_, rfl⟩
    have hk4 : Keeps (fun _ => False) w3 W4 := by rw [hW4]; exact (Keeps.refl _ _).alloc _
    have hr4 : W4.heap[w3.heap.size]? = some (.cells #[.slice la 1 lc, .slice ia 1 ic] 127 (0, 0)) := by rw [hW4]; exact heap_alloc_new w3 _
    rw [← hW4]
    have x0 : W4.cell? ⟨w3.heap.size, 0, none⟩ = some (.slice la 1 lc) := by rw [cell_of_row _ _ _ _ _ _ hr4]; rfl
    have x1 : W4.cell? ⟨w3.heap.size, 1, none⟩ = some (.slice ia 1 ic) := by rw [cell_of_row _ _ _ _ _ _ hr4]; rfl
    have CC : Hid (∀ q, Keeps (fun _ => False) W4 q → q.cell? ⟨w3.heap.size, 1, none⟩ = some (.slice ia 1 ic) ∧ q.cell? ⟨w3.heap.size, 0, none⟩ = some (.slice la 1 lc)) := Hj (fun q hq => ⟨hq.cell x1 (fun e => e), hq.cell x0 (fun e => e)⟩)
    have K0 : Hid (Keeps (fun _ => False) W4 W4.drew) := Hj (Keeps.refl _ _).drew
    have hsz : W0.heap.size ≤ W4.heap.size := by have := HK1.out.size; have := HK2.out.size; have := HK3.out.size; have := hk4.size; omega
    have HK4 := Hj hk4
    clear hW4 hk4 hr4 x0 x1
    go_region_held3 (fun q => q.cell? ⟨w3.heap.size, 1, none⟩ = some (.slice ia 1 ic) ∧ q.cell? ⟨w3.heap.size, 0, none⟩ = some (.slice la 1 lc)) (first | exact CC.out _ K0.out | exact CC.out _ (K0.out.alloc _) | exact CC.out _ ((K0.out.alloc _).alloc _) | exact CC.out _ K9.out | exact CC.out _ K8.out | exact CC.out _ (K8.out.alloc _)) (first
     | (refine sappE elIs rfl _ _ rfl W0.heap.size _ _ 0 1 [] [.slice ia 1 ic] rfl rfl (World.ownsRow_nil _ _ _ _) (by first | exact rd_new _ 1 1 [.slice ia 1 ic] 125 1 rfl (Nat.le_refl _) | exact rd_before_d W4 _ 1 1 [.slice ia 1 ic] 125 1 rfl (Nat.le_refl _) | exact rd_next_d W4 _ 1 1 [.slice ia 1 ic] 125 1 rfl (Nat.le_refl _) | exact Rd.keeps (rd_before_d W4 _ 1 1 [.slice ia 1 ic] 125 1 rfl (Nat.le_refl _)) (qbh (Keeps.refl (fun _ => False) _) HG8.out) (fun _ _ e => e) | exact Rd.keeps (rd_next_d W4 _ 1 1 [.slice ia 1 ic] 125 1 rfl (Nat.le_refl _)) (qbh (Keeps.refl (fun _ => False) _) HG8.out) (fun _ _ e => e) | exact rd_before _ _ 1 1 [.slice ia 1 ic] 125 1 rfl (Nat.le_refl _) | exact rd_next _ _ 1 1 [.slice ia 1 ic] 125 1 rfl (Nat.le_refl _)) (by simp [Value.oneCell']) (by omega) (by simp; omega) ?_
        intro v8 w8 hown8 hg8 hn8
        have HO8 := Hj hown8
        have HG8 := Hj hg8
        have K8 : Hid (Keeps (fun _ => False) W4 w8) := Hj (by first | exact qbh (K0.out.alloc _) hg8 | exact qbh ((K0.out.alloc _).alloc _) hg8)
        clear hown8 hg8 hn8)
     | (refine sappE elLs rfl _ _ rfl W0.heap.size _ _ 0 1 [] [.slice la 1 lc] rfl rfl (World.ownsRow_nil _ _ _ _) (by first | exact rd_new _ 1 1 [.slice la 1 lc] 95 1 rfl (Nat.le_refl _) | exact rd_before_d W4 _ 1 1 [.slice la 1 lc] 95 1 rfl (Nat.le_refl _) | exact rd_next_d W4 _ 1 1 [.slice la 1 lc] 95 1 rfl (Nat.le_refl _) | exact Rd.keeps (rd_before_d W4 _ 1 1 [.slice la 1 lc] 95 1 rfl (Nat.le_refl _)) (qbh (Keeps.refl (fun _ => False) _) HG8.out) (fun _ _ e => e) | exact Rd.keeps (rd_next_d W4 _ 1 1 [.slice la 1 lc] 95 1 rfl (Nat.le_refl _)) (qbh (Keeps.refl (fun _ => False) _) HG8.out) (fun _ _ e => e) | exact Rd.keeps (rd_new _ 1 1 [.slice la 1 lc] 95 1 rfl (Nat.le_refl _)) (qbh (Keeps.refl (fun _ => False) _) HG8.out) (fun _ _ e => e) | exact Rd.keeps (rd_next _ _ 1 1 [.slice la 1 lc] 95 1 rfl (Nat.le_refl _)) (qbh (Keeps.refl (fun _ => False) _) HG8.out) (fun _ _ e => e) | exact Rd.keeps (rd_before _ _ 1 1 [.slice la 1 lc] 95 1 rfl (Nat.le_refl _)) (qbh (Keeps.refl (fun _ => False) _) HG8.out) (fun _ _ e => e)) (by simp [Value.oneCell']) (by omega) (by have := K8.out.size; simp; omega) ?_
        intro v9 w9 hown9 hg9 hn9
        have HO9 := Hj hown9
        have K89 : Hid (Keeps (fun _ => False) w8 w9) := Hj (by first | exact qbh (Keeps.refl _ _) hg9 | exact qbh ((Keeps.refl _ _).alloc _) hg9)
        have K9 : Hid (Keeps (fun _ => False) W4 w9) := Hj (K8.out.trans K89.out (fun _ _ e => e))
        clear hown9 hg9 hn9))
    all_goals (
     obtain ⟨a8, c8, rfl⟩ := qaf HO8.out
     obtain ⟨a9, c9, rfl⟩ := qaf HO9.out
     go_wp2_with fail
     exact ⟨.inr ⟨rfl, Hj (K89.out.row HO8.out (fun _ _ e => e)), HO9, Hj (HK4.out.trans K9.out (fun _ _ e => e))⟩, by simp [intOf]⟩)
  · obtain ⟨g6, q6, rfl⟩ := ownsRow_succ (k := 0) HC6.out
    obtain ⟨g7, q7, rfl⟩ := ownsRow_succ (k := 0) HC7.out
    have hk03 : Keeps (fun _ => False) W0 wr := ((HK1.out.trans HK2.out (fun _ _ e => e)).trans HK3.out (fun _ _ e => e)).trans HKr.out (fun _ _ e => e)
    have hkw : Keeps (fun _ => False) w wr := HK0.out.trans hk03 (fun _ _ e => e)
    have hk2r : Keeps (fun _ => False) w2 wr := HK3.out.trans HKr.out (fun _ _ e => e)
    have z6 := HC6.out.cells (g := g6) rfl 0 _ rfl
    have z7 := HC7.out.cells (g := g7) rfl 0 _ rfl
    rw [qbo] at z6 z7
    have hlen : (chunkC mS).length = 18 := by kernel_rfl
    have hri : RdI wr (.slice ia 1 ic) [(chunkC mS).length] := by rw [hlen]; exact rd_row (hk2r.row HI5.out (fun _ _ e => e))
    have HCH := Hj (chunksdec_one (.slice a2 n2 c2) g6 0 q6 ia ic mS wr (H2.out.keeps hkw (fun _ _ e => e)) (by rw [hlen]; decide) z6 hri (by decide) (by decide) fitS (HTZ.out.keeps hkw (fun e => e)) (HTF.out.keeps hkw (fun e => e)))
    have y2 : wr.cell? ⟨w.heap.size, 2, none⟩ = some (.slice a2 n2 c2) := by rw [cell_of_row _ _ _ _ _ _ (hk03.heap HP0.out (fun e => e))]; rfl
    have HK03 := Hj hk03; have HKW := Hj hkw; have HK2R := Hj hk2r
    have hms := mustS_ok
    clear hk03 hkw hk2r z6 z7 hlen hri
    go_wp2_with (first
     | (go_at_call 81; refine HCH.out.mono ?_; rintro e w5 ⟨v8, u8, rfl, ho8, hu8, hk5⟩; obtain ⟨g8, q8, rfl⟩ := ownsRow_succ (k := 0) ho8; obtain ⟨ua, uc, rfl⟩ := qaf hu8)
     | (go_at_call 80; refine (hms _ _).mono ?_; rintro e wq ⟨rfl, hwq⟩; obtain rfl := hwq.symm))
    clear hms y2 HCH
    have hml : mS.length = 1 := rfl
    rw [hml] at ho8 hu8
    have HK5 := Hj hk5; have HO8 := Hj ho8; have HU8 := Hj hu8
    have HC75 := Hj (hk5.row HC7.out (fun _ _ e => e))
    have HK05 := Hj (HK03.out.trans hk5 (fun _ _ e => e))
    clear hk5 ho8 hu8
    go_loopw [56] (fun i wr2 => (i = .int .i64 0 ∧ wr2 = w5) ∨ (i = .int .i64 1 ∧ ∃ u, Hid (wr2.heap[w.heap.size + 1]? = some (.cells #[u] 37 (0, 0))) ∧ Hid (wr2.ownsRow W0.heap.size 97 2 u 1 [.slice la 1 lc, .slice ua 1 uc]) ∧ Hid (Keeps (fun k => k = w.heap.size + 1) w5 wr2))) (fun i _ => 1 - (intOf i).toNat)
    case atStart => exact .inl ⟨rfl, rfl⟩
    case round =>
     have hz0 := HZ0.out
     rcases hrel with ⟨rfl, hwr⟩ | ⟨rfl, u, HT2, HTO, HKr2⟩
     · obtain rfl := hwr.symm
       have m8 := HO8.out.cells (g := g8) rfl 0 _ rfl
       rw [qbo] at m8
       have m8' : w5.cell? ⟨g8, 0, none⟩ = some (.slice ua 1 uc) := m8
       clear m8
       go_upto_region 16 with fail
       clear m8'
       have x7 := HC75.out.cells (g := g7) rfl 0 _ rfl
       rw [qbo] at x7
       have x7' : w5.cell? ⟨g7, 0, none⟩ = some (.slice la 1 lc) := x7
       have hg7 : W0.heap.size ≤ g7 := (HC75.out.lt g7 rfl).1
       have CC : Hid (∀ q, Keeps (fun k => k = w.heap.size + 1) w5 q → q.cell? ⟨g7, 0, none⟩ = some (.slice la 1 lc)) := Hj (fun q hq => hq.cell x7' (by simp only; omega))
       have K0 : Hid (Keeps (fun k => k = w.heap.size + 1) w5 w5.drew) := Hj (Keeps.refl _ _).drew
       have hr5 := HK05.out.heap HQ0.out (fun e => e)
       have HR5 := Hj hr5
       have d5 : w5.cell? ⟨w.heap.size + 1, 0, none⟩ = some (.slice none 0 0) := by rw [cell_of_row _ _ _ _ _ _ hr5]; rfl
       have hsz5 : W0.heap.size ≤ w5.heap.size := HK05.out.size
       clear hr5 x7
       have l2 : w5.drew.cell? ⟨g7, 0, none⟩ = some (.slice la 1 lc) := x7'
       have r2 : w5.drew.cell? ⟨w.heap.size + 1, 0, none⟩ = some (.slice none 0 0) := d5
       have r3 : (w5.alloc (.cells #[.slice la 1 lc, .slice ua 1 uc] 97)).cell? ⟨w.heap.size + 1, 0, none⟩ = some (.slice none 0 0) := ((Keeps.refl (fun _ => False) w5).alloc _).cell d5 (fun e => e)
       refine wp_onlyN ?_
       go_region_law (first
        | (refine sappE elX rfl _ _ rfl W0.heap.size _ _ 0 1 [] [.slice la 1 lc, .slice ua 1 uc] rfl rfl (World.ownsRow_nil _ _ _ _) (rd_new _ 2 1 [.slice la 1 lc, .slice ua 1 uc] 97 1 rfl (Nat.le_refl _)) (by simp [Value.oneCell']) (by omega) (by simp; omega) ?_
           intro v9 w9 hown9 hg9 hn9
           have K8 : Hid (Keeps (fun k => k = w.heap.size + 1) w5 w9) := Hj (qbh (K0.out.alloc _) hg9)
           have K8f : Hid (Keeps (fun _ => False) w5 w9) := Hj (qbh (((Keeps.refl (fun _ => False) w5).drew).alloc _) hg9)
           obtain ⟨a9, q9, rfl⟩ := qaf hown9
           have d9 : w9.cell? ⟨w.heap.size + 1, 0, none⟩ = some (.slice none 0 0) := K8f.out.cell d5 (fun e => e)
           have f9 : w9.frozen? ⟨w.heap.size + 1, 0, none⟩ = false := frozen_of_row _ _ _ _ _ (K8f.out.heap HR5.out (fun e => e))
           have K9 : Hid (Keeps (fun k => k = w.heap.size + 1) w5 (w9.setCell ⟨w.heap.size + 1, 0, none⟩ (.slice a9 (0 + 1) q9))) := Hj (K8.out.setCell (p := ⟨w.heap.size + 1, 0, none⟩) (fun _ => rfl) _)
           have HO9 := Hj hown9
           clear hown9 hg9 hn9))
       all_goals (
        obtain ⟨WB, hWB⟩ : ∃ WB, WB = (w9.setCell ⟨w.heap.size + 1, 0, none⟩ (.slice a9 1 q9)) := ⟨_, rfl⟩
        have hrB : (w9.setCell ⟨w.heap.size + 1, 0, none⟩ (.slice a9 1 q9)).heap[w.heap.size + 1]? = some (.cells #[.slice a9 1 q9] 37 (0, 0)) := (heap_setCell_same w9 (w.heap.size + 1) 0 _ _ (.slice a9 1 q9) (K8f.out.heap HR5.out (fun e => e))).trans rfl
        rw [← hWB] at hrB
        have hkB : Keeps (fun k => k = w.heap.size + 1) w5 WB := by rw [hWB]; exact K9.out
        have hgB : ∀ g, (Value.slice a9 1 q9).ownBlock = some g → g ≠ w.heap.size + 1 := fun g hg => by have := (HO9.out.lt g hg).1; omega
        have hoB : WB.ownsRow W0.heap.size 97 2 (.slice a9 1 q9) 1 [.slice la 1 lc, .slice ua 1 uc] := by rw [hWB]; exact ((Keeps.refl (fun k => k = w.heap.size + 1) w9).setCell (p := ⟨w.heap.size + 1, 0, none⟩) (fun _ => rfl) _).row HO9.out (fun g hg e => hgB g hg e)
        have HRB := Hj hrB; have HKB := Hj hkB; have HOB := Hj hoB
        first | rw [← hWB] | skip
        clear hrB hkB hgB hoB
        simp only [onlyN]
        go_wp2_with fail
        first | rw [← hWB] | skip
        exact ⟨.inr ⟨rfl, _, HRB, HOB, HKB⟩, by simp [intOf]⟩)
     · have hkw5 : Keeps (fun _ => False) w w5 := HK0.out.trans HK05.out (fun _ _ e => e)
       have hk2w : Keeps (fun k => k = w.heap.size + 1) w5 wr := HKr2.out
       have hsz5 : W0.heap.size ≤ w5.heap.size := HK05.out.size
       have hkF : Keeps (fun _ => False) w wr := hkw5.trans hk2w (fun k hk e => by omega)
       obtain ⟨a9, q9, rfl⟩ := qaf HTO.out
       have t2c : wr.cell? ⟨w.heap.size + 1, 0, none⟩ = some (.slice a9 1 q9) := by rw [cell_of_row _ _ _ _ _ _ HT2.out]; rfl
       have t2f : wr.frozen? ⟨w.heap.size + 1, 0, none⟩ = false := frozen_of_row _ _ _ _ _ HT2.out
       have hL5 := hk2w.row (HK5.out.row (HK2R.out.row HL5.out (fun _ _ e => e)) (fun _ _ e => e)) (fun g hg e => by have := (HL5.out.lt g hg).1; have := HK1.out.size; omega)
       have hU8 := hk2w.row HU8.out (fun g hg e => by have := (HU8.out.lt g hg).1; have := HK03.out.size; omega)
       have hrdb : RdB wr (.slice a9 1 q9) [⟨la, 1, lc, ua, 1, uc⟩] [([xS], mS)] := ⟨rfl, rd_row HTO.out, fun i h r hi hr => by
        cases i with
        | zero =>
          simp only [List.getElem?_cons_zero, Option.some.injEq] at hi hr
          subst hi hr
          exact ⟨rd_row hL5, rd_row hU8⟩
        | succ i => simp at hi⟩
       have HCK := Hj (show Calls Tryz.prog 61 #[.slice a9 1 q9] wr (fun e w' => e = .returned (.int .i64 0) ∧ Below wr.heap.size wr w') from by
        have := mCheck_any _ _ _ wr hrdb (by simp) (by decide) (fun y hy => by simp only [List.mem_singleton] at hy; subst hy; exact ⟨by simp, by decide⟩)
        rwa [show modE [([xS], mS)] = 0 by kernel_rfl] at this)
       have HRDB := Hj hrdb; have HKF := Hj hkF; have HLA := Hj (show RdL wr (.slice la 1 lc) [xS] from rd_row hL5)
       have HT4 : Hid (RdT wr (.slice (some ⟨g4, 0, none⟩) tbS.length c4) tbS) := Hj (by
        have k1 : Keeps (fun _ => False) w1 w5 := (HK2.out.trans HK2R.out (fun _ _ e => e)).trans HK5.out (fun _ _ e => e)
        exact Rd.keeps (Rd.keeps HT1.out k1 (fun _ _ e => e)) hk2w (fun g hg e => by have := (HO4.out.lt g hg).1; omega))
       have HC7w := Hj (hk2w.row HC75.out (fun g hg e => by have := (HC75.out.lt g hg).1; omega))
       have y3 : wr.cell? ⟨w.heap.size, 3, none⟩ = some (.slice a3 n3 c3) := by rw [cell_of_row _ _ _ _ _ _ (hk2w.heap (HK05.out.heap HP0.out (fun e => e)) (by omega))]; rfl
       have HE3 := Hj (hk2w.heap (HK05.out.heap HR0.out (fun e => e)) (by omega))
       have HTT := Hj HT2.out
       have HPD : Hid (∀ q, Keeps (fun _ => False) wr q → Calls Tryz.prog 84 #[.slice (some ⟨g4, 0, none⟩) 2 c4, .int .i64 1, .slice a3 n3 c3] q fun e w' => ∃ v' v2, e = .returned (.tuple #[v', .int .i64 0]) ∧ w'.ownsRow q.heap.size 229 3 v' 1 [.string sA, .string s1, v2] ∧ w'.ownsRow q.heap.size 3 1 v2 1 [.int .i64 0] ∧ Keeps (fun _ => False) q w') := Hj (fun q hq =>
        postdec_one (tb := tbS) (i := 1) (k := 1) (j2 := 2) (k2 := 0) (j3 := 3) (j4 := 4) (s := sA) (s2 := s1) (Rd.keeps HT4.out hq (fun _ _ e => e)) (H3.out.keeps (HKF.out.trans hq (fun _ _ e => e)) (fun _ _ e => e)) (by decide) (by decide) (by kernel_rfl) (by decide) (by kernel_rfl) rfl (by kernel_rfl) rfl (by decide) (by kernel_rfl) (by decide) (by kernel_rfl))
       have HBD : Hid (∀ q, Keeps (fun _ => False) wr q → Calls Tryz.prog 68 #[.slice (some ⟨g7, 0, none⟩) 1 q7] q fun e w' => ∃ v' hd, e = .returned v' ∧ RdE w' v' [hd] [(xS, [0])] ∧ Keeps (fun _ => False) q w') := Hj (fun q hq =>
        build_one (some ⟨g7, 0, none⟩) la q7 lc xS _ q keyS.choose_spec (Rd.keeps (rd_row HC7w.out) hq (fun _ _ e => e)) (HLA.out.below hq.toBelow))
       have HFA : Hid (∀ q, Keeps (fun _ => False) wr q → (q.cell? ⟨w.heap.size + 1, 0, none⟩ = some (.slice a9 1 q9) ∧ q.frozen? ⟨w.heap.size + 1, 0, none⟩ = false) ∧ (q.cell? ⟨w.heap.size + 2, 0, none⟩ = some (.int .i64 0) ∧ q.frozen? ⟨w.heap.size + 2, 0, none⟩ = false) ∧ q.cell? ⟨w.heap.size, 3, none⟩ = some (.slice a3 n3 c3)) := Hj (fun q hq => ⟨⟨hq.cell t2c (fun e => e), frozen_of_row _ _ _ _ _ (hq.heap HTT.out (fun e => e))⟩, ⟨by rw [cell_of_row _ _ _ _ _ _ (hq.heap HE3.out (fun e => e))]; rfl, frozen_of_row _ _ _ _ _ (hq.heap HE3.out (fun e => e))⟩, hq.cell y3 (fun e => e)⟩)
       have hnd := need_ok
       have hmp := mustP_ok
       have HLW := Hj hL5; have HUW := Hj hU8
       clear hkw5 hk2w hkF hL5 hU8 hrdb y3 t2f
       go_wp2_with (first
        | (go_at_call 61
           refine HCK.out.mono ?_
           rintro e w6 ⟨rfl, hb6⟩
           have K6 := Hj hb6.toKeeps
           have f6 := (HFA.out _ K6.out).1.1
           have f63 := (HFA.out _ K6.out).2.2
           have HP6 := Hj (HPD.out _ K6.out)
           clear hb6)
        | (go_at_call 79; refine (hnd _).mono ?_; rintro e wq ⟨rfl, hwq⟩; obtain rfl := hwq.symm)
        | (go_at_call 84
           refine HP6.out.mono ?_
           rintro e w7 ⟨vp, vi, rfl, hop, hoi, hk7⟩
           have K7 := Hj (K6.out.trans hk7 (fun _ _ e => e))
           have HB7 := Hj (HBD.out _ K7.out)
           have HOP := Hj hop; have HOI := Hj hoi
           clear hop hoi hk7)
        | (go_at_call 83; refine (hmp _ _).mono ?_; rintro e wq ⟨rfl, hwq⟩; obtain rfl := hwq.symm)
        | (go_at_call 68
           refine HB7.out.mono ?_
           rintro e w8 ⟨vb, hdb, rfl, hrb, hk8⟩
           have K8 := Hj (K7.out.trans hk8 (fun _ _ e => e))
           obtain ⟨aI, cI, rfl⟩ := qaf HOI.out
           have he1 : RdE w8 vp [⟨xS, aI, 1, cI⟩] [(xS, [0])] := ⟨rfl, rd_row (hk8.row HOP.out (fun _ _ e => e)), fun i h e hi he => by
            cases i with
            | zero =>
              simp only [List.getElem?_cons_zero, Option.some.injEq] at hi he
              subst hi he
              exact ⟨rfl, rd_row (hk8.row HOI.out (fun _ _ e => e))⟩
            | succ i => simp at hi⟩
           have HSI := Hj (sameindex_one xS vp vb _ hdb w8 he1 hrb)
           clear hk8 hrb he1)
        | (go_at_call 82
           refine HSI.out.mono ?_
           rintro e w9 ⟨rfl, hk9⟩
           have K9 := Hj (K8.out.trans hk9 (fun _ _ e => e))
           have f91 := (HFA.out _ K9.out).1.1; have f92 := (HFA.out _ K9.out).1.2
           have f93 := (HFA.out _ K9.out).2.1.1; have f94 := (HFA.out _ K9.out).2.1.2
           clear hk9))
       obtain ⟨WY, hWY⟩ : ∃ WY, WY = w9.setCell ⟨w.heap.size + 1, 0, none⟩ (.slice a9 1 q9) := ⟨_, rfl⟩
       obtain ⟨WZ, hWZ⟩ : ∃ WZ, WZ = WY.setCell ⟨w.heap.size + 1 + 1, 0, none⟩ (.int .i64 0) := ⟨_, rfl⟩
       have kY : Keeps (fun k => k = w.heap.size + 1) w9 WY := by rw [hWY]; exact (Keeps.refl (fun k => k = w.heap.size + 1) w9).setCell (p := ⟨w.heap.size + 1, 0, none⟩) (fun _ => rfl) _
       have kZ : Keeps (fun k => k = w.heap.size + 2) WY WZ := by rw [hWZ]; exact (Keeps.refl (fun k => k = w.heap.size + 2) WY).setCell (p := ⟨w.heap.size + 1 + 1, 0, none⟩) (fun _ => rfl) _
       have rY : WY.heap[w.heap.size + 1]? = some (.cells #[.slice a9 1 q9] 37 (0, 0)) := by rw [hWY]; exact (heap_setCell_same w9 (w.heap.size + 1) 0 _ _ (.slice a9 1 q9) (K9.out.heap HTT.out (fun e => e))).trans rfl
       have rZ : WZ.heap[w.heap.size + 2]? = some (.cells #[.int .i64 0] 30 (0, 0)) := by rw [hWZ]; exact (heap_setCell_same WY (w.heap.size + 2) 0 _ _ (.int .i64 0) (kY.heap (K9.out.heap HE3.out (fun e => e)) (by omega))).trans rfl
       have e0 : WZ.cell? ⟨w.heap.size + 1, 0, none⟩ = some (.slice a9 1 q9) := by rw [cell_of_row _ _ _ _ _ _ (kZ.heap rY (by omega))]; rfl
       have e1 : WZ.cell? ⟨w.heap.size + 1 + 1, 0, none⟩ = some (.int .i64 0) := by rw [cell_of_row _ _ _ _ _ _ rZ]; rfl
       rw [← hWY, ← hWZ]
       have kF : Keeps (fun k => k = w.heap.size + 1 ∨ k = w.heap.size + 2) wr WZ := ((K9.out.mono (S' := fun k => k = w.heap.size + 1 ∨ k = w.heap.size + 2) (fun _ _ e => e.elim)).trans kY (fun k _ e => .inl e)).trans kZ (fun k _ e => .inr e)
       have hrF : RdB WZ (.slice a9 1 q9) [⟨la, 1, lc, ua, 1, uc⟩] [([xS], mS)] := ⟨rfl, rd_row (kF.row HTO.out (fun g hg e => by have := (HTO.out.lt g hg).1; omega)), fun i h r hi hr => by
        cases i with
        | zero =>
          simp only [List.getElem?_cons_zero, Option.some.injEq] at hi hr
          subst hi hr
          exact ⟨rd_row (kF.row HLW.out (fun g hg e => by have := (HL5.out.lt g hg).1; have := HK1.out.size; omega)), rd_row (kF.row HUW.out (fun g hg e => by have := (HU8.out.lt g hg).1; have := HK03.out.size; omega))⟩
        | succ i => simp at hi⟩
       clear hWY hWZ
       refine leaves_cons (f := 72) (args := #[.pointer (some ⟨w.heap.size + 1, 0, none⟩), .pointer (some ⟨w.heap.size + 1 + 1, 0, none⟩)]) (by simp) (by simp [go_sem]) ?_
       refine (door_ok _ _ _).mono ?_
       rintro e u' w'' ⟨rfl, rfl, rfl⟩
       refine ⟨.tuple #[.slice a9 1 q9, .int .i64 0], by simp [results, Tryz.results36, go_sem, e0, e1], _, ⟨la, 1, lc, ua, 1, uc⟩, rfl, hrF, HKF.out.trans kF (fun k hk e => by omega)⟩
end
end Go.Proofs.YtfpcgcbehdogjaaGreatDoor
