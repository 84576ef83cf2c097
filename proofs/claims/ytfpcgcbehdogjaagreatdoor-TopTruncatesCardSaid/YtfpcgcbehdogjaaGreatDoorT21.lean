/-
  Lemmas on which LTopTruncates rests, packed out of the texts XBld XSpl XSpl2 YMap XAdd XChs XSec XEnc XRdA; each for all arguments under the hypotheses it names.
-/
import Derived.Test.YtfpcgcbehdogjaaGreatDoorT19
import Derived.Maps.RangeRun
import Derived.WideKeyEntry
import Derived.Deep.WholeRow
import Derived.Test.YtfpcgcbehdogjaaGreatDoorT14
namespace Go.Proofs.YtfpcgcbehdogjaaGreatDoor
section
set_option maxHeartbeats 4000000
set_option maxRecDepth 100000
open Go.RowKit
abbrev oneL (x : Lab) : Value := .agg #[.string x.1, .string x.2]
theorem build_one (ad la : Option Addr) (cap lc : Nat) (x : Lab) (kl : Lit) (w : World) (hk : keyOf Tryz.prog 94 (oneL x) = some kl) (h : Rd 1 w (.slice ad 1 cap) 1 [.slice la 1 lc]) (hL : RdL w (.slice la 1 lc) [x]) :
 Calls Tryz.prog 68 #[.slice ad 1 cap] w fun e w' => ∃ v' hd, e = .returned v' ∧ RdE w' v' [hd] [(x, [0])] ∧ Keeps (fun _ => False) w w' := by
 obtain ⟨b0, o0, rfl, hc0⟩ := Rd.at h (i := 0) (by omega)
 have c0 : w.cell? ⟨b0, o0, none⟩ = some (.slice la 1 lc) := by simpa using hc0 0 _ rfl
 obtain ⟨b1, o1, rfl, c1, c2⟩ := RdL.at (cap := lc) (l := [x]) hL (i := 0) rfl
 simp only [Nat.zero_mul, Nat.add_zero] at c1 c2
 obtain ⟨x1, x2⟩ := x
 simp only at c1 c2
 have hmk : (Instr.makeMap 230 none).run Tryz.prog w = .ok (.map (some w.heap.size)) (w.alloc (.map #[] 0)) := run_makeMap 230 w
 obtain ⟨W0, hW0⟩ : ∃ W0, W0 = w.alloc (.map #[] 0) := ⟨_, rfl⟩
 have HM0 : Hid (W0.heap[w.heap.size]? = some (.map #[] 0)) := Hj (by rw [hW0]; exact heap_alloc_new w _)
 have HK0 : Hid (Keeps (fun _ => False) w W0) := Hj (by rw [hW0]; exact (Keeps.refl _ w).alloc _)
 rw [← hW0] at hmk
 have HC0 := Hj c0; have HC1 := Hj c1; have HC2 := Hj c2; have HKY := Hj hk
 clear h hL hc0 c0 c1 c2 hW0 hk
 go_enter Tryz.func68, Tryz.ntmps68
 go_wp2
 clear hmk
 go_loopw [14] (fun i wr => (i = .int .i64 0 ∧ wr = W0) ∨ (i = .int .i64 1 ∧ ∃ g cp, Hid (wr.heap[w.heap.size]? = some (.map #[⟨oneL (x1, x2), .slice (some ⟨g, 0, none⟩) 1 cp, 0⟩] 1)) ∧ Hid (wr.ownsRow (w.heap.size + 1) 3 1 (.slice (some ⟨g, 0, none⟩) 1 cp) 1 [.int .i64 0]) ∧ Hid (Keeps (fun _ => False) w wr))) (fun i _ => 1 - (intOf i).toNat)
 case atStart => exact .inl ⟨rfl, rfl⟩
 case round =>
  rcases hrel with ⟨rfl, hwr⟩ | ⟨rfl, g, cp, HM, HR, HK⟩
  · obtain rfl := hwr.symm
    have c0 := HK0.out.cell HC0.out (fun e => e)
    go_wp2_with fail
    clear c0
    go_loopw [21] (fun i wr => (i = .int .i64 0 ∧ wr = W0) ∨ (i = .int .i64 1 ∧ ∃ g cp, Hid (wr.heap[w.heap.size]? = some (.map #[⟨oneL (x1, x2), .slice (some ⟨g, 0, none⟩) 1 cp, 0⟩] 1)) ∧ Hid (wr.ownsRow (w.heap.size + 1) 3 1 (.slice (some ⟨g, 0, none⟩) 1 cp) 1 [.int .i64 0]) ∧ Hid (Keeps (fun _ => False) w wr))) (fun i _ => 1 - (intOf i).toNat)
    case atStart => exact .inl ⟨rfl, rfl⟩
    case round =>
     rcases hrel with ⟨rfl, hwr⟩ | ⟨rfl, g, cp, HM, HR, HK⟩
     · obtain rfl := hwr.symm
       have c1 := HK0.out.cell HC1.out (fun e => e)
       have c2 := HK0.out.cell HC2.out (fun e => e)
       obtain ⟨W2, hW2⟩ : ∃ W2, W2 = (W0.alloc (.cells #[.string x1, .string x2] 94)).alloc (.cells #[.int .i64 0] 3) := ⟨_, rfl⟩
       have hM2 : W2.heap[w.heap.size]? = some (.map #[] 0) := by rw [hW2]; exact heap_alloc _ (heap_alloc _ HM0.out)
       have hB2 : W2.heap[W0.heap.size + 1]? = some (.cells #[.int .i64 0] 3 (0, 0)) := by rw [hW2]; have := heap_alloc_new (W0.alloc (.cells #[.string x1, .string x2] 94)) (.cells #[.int .i64 0] 3); rwa [World.size_alloc] at this
       have hk2 : Keeps (fun _ => False) w W2 := by rw [hW2]; exact (HK0.out.alloc _).alloc _
       have hme := run_mapEntry0 HKY.out hM2
       obtain ⟨W3, hW3⟩ : ∃ W3, W3 = W2.putObj w.heap.size (.map #[⟨oneL (x1, x2), .slice none 0 0, 0⟩] 1) := ⟨_, rfl⟩
       have hlt := qan hM2
       have hM3 : W3.heap[w.heap.size]? = some (.map #[⟨oneL (x1, x2), .slice none 0 0, 0⟩] 1) := by rw [hW3]; exact World.putObj_heap_same hlt
       have hB3 : W3.heap[W0.heap.size + 1]? = some (.cells #[.int .i64 0] 3 (0, 0)) := by rw [hW3]; exact (World.putObj_heap_other (by have := HK0.out.size; omega)).trans hB2
       have hk3 : Keeps (fun k => k = w.heap.size) W2 W3 := by rw [hW3]; exact Keeps.putObj _ _ _ rfl
       rw [← hW3, hW2] at hme
       have HM3 := Hj hM3; have HB3 := Hj hB3; have HK3 := Hj (hk2.trans hk3 (fun k hk e => by omega))
       clear hW2 hM2 hB2 hk2 hlt hM3 hB3 hk3 hW3
       have HRd : Hid (Rd 1 W3 (.slice (some ⟨W0.heap.size + 1, 0, none⟩) 1 1) 1 [.int .i64 0]) := Hj ⟨rfl, _, 1, rfl, Nat.le_refl _, .inr ⟨W0.heap.size + 1, 0, rfl, fun j u hj => by rw [Nat.zero_add, cell_of_row _ _ _ _ _ _ HB3.out]; simpa using hj⟩⟩
       have HS3 : Hid (w.heap.size + 1 ≤ W3.heap.size) := Hj (by have := qan HB3.out; have := HK0.out.size; omega)
       go_wp2_with (at_builtin; refine appE elI rfl _ _ rfl (w.heap.size + 1) _ _ 0 1 [] [.int .i64 0] rfl rfl (World.ownsRow_nil _ _ _ _) HRd.out (by simp [Value.oneCell']) (by omega) HS3.out ?_; intro v6 w6 hown6 hg6' hn6; have hg6 : W3.grownBy w6 none := hg6'; have hM6 := (hg6.block w.heap.size (qan HM3.out) (by simp)).trans HM3.out; have hst := fun v => qje (P := Tryz.prog) (val := v) hM6 230; have HM6 := Hj hM6; have HO6 := Hj hown6; have HG6 := Hj hg6; clear hM6 hown6 hg6 hg6' hn6)
       obtain ⟨g6, c6, rfl⟩ := ownsRow_succ (k := 0) HO6.out
       have hlt := qan HM6.out
       have hp6 : Keeps (fun k => k = w.heap.size) w6 (w6.putObj w.heap.size (.map #[⟨oneL (x1, x2), .slice (some ⟨g6, 0, none⟩) 1 c6, 0⟩] 1)) := Keeps.putObj _ _ _ rfl
       exact ⟨.inr ⟨rfl, g6, c6, Hj (World.putObj_heap_same hlt), Hj (hp6.row HO6.out (fun g hg e => by have := (HO6.out.lt g hg).1; omega)), Hj ((HK3.out.grown HG6.out (fun k hk e => by cases e)).trans hp6 (fun k hk e => by omega))⟩, by simp [intOf]⟩
     · go_wp2_with fail
       exact ⟨.inr ⟨rfl, g, cp, HM, HR, HK⟩, by simp [intOf]⟩
  · obtain ⟨W1, hW1⟩ : ∃ W1, W1 = wr.alloc (.cells #[.map (some w.heap.size)] 230) := ⟨_, rfl⟩
    have hk1 : Keeps (fun _ => False) wr W1 := by rw [hW1]; exact (Keeps.refl _ _).alloc _
    have hM1 := hk1.heap HM.out (fun e => e)
    have hs1 : W1.heap.size = wr.heap.size + 1 := by rw [hW1]; simp
    have hb1 : W1.heap[wr.heap.size]? = some (.cells #[.map (some w.heap.size)] 230 (0, 0)) := by rw [hW1]; exact heap_alloc_new wr _
    have hMw := qan HM.out
    have hso := sortedL_one 176 (enters_of Tryz.func176 (by kernel_rfl) rfl) #[.pointer (some ⟨wr.heap.size, 0, none⟩)] (.func (.func 130) #[] #[]) (fun k => k = w.heap.size ∨ k = W1.heap.size + 3) (fun k => k = W1.heap.size + 3) (x1, x2) W1
     (fun W hs hk => by
       have := keys_at wr.heap.size w.heap.size (W1.heap.size + 3) (x1, x2) (.slice (some ⟨g, 0, none⟩) 1 cp) W hs.symm (by rw [cell_of_row _ _ _ _ _ _ (hk.heap hb1 (fun e => e))]; rfl) (hk.heap hM1 (fun e => e))
       exact this) (fun k hk => hk.elim (fun e => .inl (by omega)) .inr) (fun k hk => hk) (fun k hk => .inr hk)
    have HSO := Hj hso; have HW1 := Hj hW1; have HM1 := Hj hM1; have HK1 := Hj (HK.out.trans hk1 (fun _ _ e => e)); have HR1 := Hj (hk1.row HR.out (fun _ _ e => e)); have HS1 := Hj hs1
    clear hk1 hM1 hs1 hb1 hso hW1 hMw HM HR
    go_wp2_with (first
     | (go_at_call 129; refine (keys_any w.heap.size _).mono ?_; rintro e w1 ⟨rfl, rfl⟩)
     | (go_at_call 128; rw [← HW1.out]; refine HSO.out.mono ?_; rintro e w5 ⟨v5, rfl, hr5, hk5⟩; obtain ⟨g5, c5, rfl⟩ := ownsRow_succ (k := 0) hr5; have HR5 := Hj hr5; have HM5 := Hj (hk5.heap HM1.out (fun e => e)); have HK5 := Hj (HK1.out.trans hk5 (fun _ _ e => e)); have HRw5 := Hj (hk5.row HR1.out (fun _ _ e => e)); have HW5 := Hj hk5.size; clear hr5 hk5))
    clear HSO HM1 HK1 HR1
    go_loopw [8, 39] (fun c8 i wr => (c8 = .slice none 0 0 ∧ i = .int .i64 0 ∧ wr = w5) ∨ (i = .int .i64 1 ∧ Hid (wr.ownsRow (w.heap.size + 1) 229 3 c8 1 [.string x1, .string x2, .slice (some ⟨g, 0, none⟩) 1 cp]) ∧ Hid (wr.ownsRow (w.heap.size + 1) 3 1 (.slice (some ⟨g, 0, none⟩) 1 cp) 1 [.int .i64 0]) ∧ Hid (Keeps (fun _ => False) w wr))) (fun _ i _ => 1 - (intOf i).toNat)
    case atStart => exact .inl ⟨rfl, rfl, rfl⟩
    case round =>
     rcases hrel with ⟨rfl, rfl, hwr⟩ | ⟨rfl, HE, HRw, HKw⟩
     · obtain rfl := hwr.symm
       have c1 : w5.cell? ⟨g5, 0, none⟩ = some (.string x1) := by have := (HR5.out.cells (g := g5) rfl 0 (.string x1) rfl); rw [qbn] at this; exact this
       have c2 : w5.cell? ⟨g5, 1, none⟩ = some (.string x2) := by have := (HR5.out.cells (g := g5) rfl 1 (.string x2) rfl); rw [qbn] at this; exact this
       go_upto_region 15 with fail
       obtain ⟨W6, hW6⟩ : ∃ W6, W6 = w5.alloc (.cells #[.string x1, .string x2] 94) := ⟨_, rfl⟩
       have hr6 : W6.heap[w5.heap.size]? = some (.cells #[.string x1, .string x2] 94 (0, 0)) := by rw [hW6]; exact heap_alloc_new w5 _
       have hM6 : W6.heap[w.heap.size]? = some (.map #[⟨oneL (x1, x2), .slice (some ⟨g, 0, none⟩) 1 cp, 0⟩] 1) := by rw [hW6]; exact heap_alloc _ HM5.out
       have e1 : W6.cell? ⟨w5.heap.size, 0, none⟩ = some (.string x1) := by rw [cell_of_row _ _ _ _ _ _ hr6]; rfl
       have e2 : W6.cell? ⟨w5.heap.size, 1, none⟩ = some (.string x2) := by rw [cell_of_row _ _ _ _ _ _ hr6]; rfl
       have HK6 : Hid (Keeps (fun _ => False) w W6) := Hj (by rw [hW6]; exact HK5.out.alloc _)
       have HRw6 : Hid (W6.ownsRow (w.heap.size + 1) 3 1 (.slice (some ⟨g, 0, none⟩) 1 cp) 1 [.int .i64 0]) := Hj (by rw [hW6]; exact HRw5.out.alloc _)
       have hlk := run_lookup1 (w := W6.drew) HKY.out hM6
       have HS6 : Hid (w.heap.size + 1 ≤ W6.heap.size) := Hj (by have := qan hM6; omega)
       have CC : Hid (∀ q, Keeps (fun _ => False) W6 q → q.cell? ⟨w5.heap.size, 0, none⟩ = some (.string x1) ∧ q.cell? ⟨w5.heap.size, 1, none⟩ = some (.string x2)) := Hj (fun q hq => ⟨hq.cell e1 (fun e => e), hq.cell e2 (fun e => e)⟩)
       have K0 : Hid (Keeps (fun _ => False) W6 W6.drew) := Hj (Keeps.refl _ _).drew
       have K1 : Hid (Keeps (fun _ => False) W6 (W6.drew.alloc (.cells #[.string x1, .string x2, .slice (some ⟨g, 0, none⟩) 1 cp] 229))) := Hj ((Keeps.refl _ _).drew.alloc _)
       rw [← hW6]
       clear hW6 c1 c2 hM6 hr6
       go_region_held3 (fun q => q.cell? ⟨w5.heap.size, 0, none⟩ = some (.string x1) ∧ q.cell? ⟨w5.heap.size, 1, none⟩ = some (.string x2)) (first | exact CC.out _ K0.out | exact CC.out _ K1.out | exact CC.out _ K8.out) (first | (refine sappE elEn rfl _ _ rfl (w.heap.size + 1) _ _ 0 1 [] [.string x1, .string x2, .slice (some ⟨g, 0, none⟩) 1 cp] rfl rfl (World.ownsRow_nil _ _ _ _) (rd_new _ 3 1 [.string x1, .string x2, .slice (some ⟨g, 0, none⟩) 1 cp] 229 1 rfl (Nat.le_refl _)) (by simp [Value.oneCell']) (by omega) (by have := HS6.out; simp; omega) ?_; intro v8 w8 hown8 hg8' hn8; have hg8 : (W6.drew.alloc (.cells #[.string x1, .string x2, .slice (some ⟨g, 0, none⟩) 1 cp] 229)).grownBy w8 none := hg8'; have K8 := Hj (K1.out.grown hg8 (fun k hk e => by cases e)); have HO8 := Hj hown8; clear hg8' hown8 hg8 hn8))
       clear hlk
       obtain ⟨a8, c8, rfl⟩ := qac HO8.out
       go_wp2_with fail
       exact ⟨.inr ⟨rfl, Hj HO8.out, Hj (K8.out.row HRw6.out (fun _ _ e => e)), Hj (HK6.out.trans K8.out (fun _ _ e => e))⟩, by simp [intOf]⟩
     · obtain ⟨a9, c9, rfl⟩ := qac HE.out
       go_wp2_with fail
       go_ret
       refine ⟨_, ⟨(x1, x2), some ⟨g, 0, none⟩, 1, cp⟩, rfl, ⟨rfl, rd_row HE.out, fun i h e hi he => ?_⟩, HKw.out⟩
       cases i with
       | zero =>
         simp only [List.getElem?_cons_zero, Option.some.injEq] at hi he
         subst hi he
         exact ⟨rfl, rd_row HRw.out⟩
       | succ i => simp at hi
end
section
set_option maxHeartbeats 1000000
set_option maxRecDepth 100000
open Go.RowKit Go.Shelf
attribute [local go_sem] Oper.semAt_some
theorem smpC_one (l : List Smp) : ∀ u ∈ smpC l, u.oneCell' = true := by
 intro u hu
 simp only [smpC, cells2, List.mem_flatMap] at hu
 obtain ⟨x, _, hx⟩ := hu
 simp only [List.mem_cons, List.not_mem_nil, or_false] at hx
 rcases hx with rfl | rfl <;> rfl
theorem smpC_length (l : List Smp) : (smpC l).length = l.length * 2 := qat _ _ l
theorem cloneSmp_any (ad : Option Addr) (cap : Nat) (l : List Smp) (w : World) (h : RdS w (.slice ad l.length cap) l) (hn : l ≠ []) (hl : l.length ≤ 1099511627776) :
 Calls Tryz.prog 6 #[.slice ad l.length cap] w fun e w' => ∃ v', e = .returned v' ∧ w'.ownsRow w.heap.size 28 2 v' l.length (smpC l) ∧ Keeps (fun _ => False) w w' := by
 obtain ⟨b, off, rfl, _⟩ := Rd.at h (i := 0) (by cases l with | nil => exact absurd rfl hn | cons => simp)
 have hq := fun (w : World) n c => Lib.run_eql_slice_nil (P := Tryz.prog) w 22 28 (some ⟨b, off, none⟩) n c 0 0 Tryz.underlying22
 have HH := Hj (Rd.keeps h ((Keeps.refl (fun _ => False) w).alloc (.cells #[] 28)) (fun _ _ e => e))
 have hown : (w.alloc (.cells #[] 28)).ownsRow w.heap.size 28 2 (.slice (some ⟨w.heap.size, 0, none⟩) 0 0) 0 [] :=
  ⟨rfl, .inr ⟨w.heap.size, 0, #[], rfl, Nat.le_refl _, heap_alloc_new w _, Nat.le_refl _, Nat.zero_le _, rfl, rfl⟩⟩
 have HOW := Hj hown
 clear h hn hown
 go_enter Tryz.func6, Tryz.ntmps6
 go_wp2_with (at_builtin; refine appE elM rfl _ _ rfl w.heap.size _ _ 0 l.length [] (smpC l) rfl rfl HOW.out HH.out (smpC_one l) (by omega) (by simp) ?_; intro v6 w6 hown6 hg6' hn6; have hg6 : (w.alloc (.cells #[] 28)).grownBy w6 (some w.heap.size) := hg6'; have HO6 := Hj hown6; have HG6 : Hid (Keeps (fun _ => False) w w6) := Hj (((Keeps.refl (fun _ => False) w).alloc _).grown hg6 (fun k hk e => by simp at e; omega)); clear hown6 hg6 hg6' hn6)
 obtain ⟨a9, c9, rfl⟩ := qac HO6.out
 go_wp2_with fail
 go_ret
 exact ⟨.slice a9 (0 + l.length) c9, rfl, by have := HO6.out; simpa using this, HG6.out⟩
theorem chunkseq_any (ad : Option Addr) (n cap : Nat) (w : World) : Calls Tryz.prog 165 #[.slice ad n cap, .int .i64 120] w fun e w' => e = .returned (.func (.func 201) #[] #[.pointer (some ⟨w.heap.size, 0, none⟩), .pointer (some ⟨w.heap.size + 1, 0, none⟩)]) ∧ w' = (w.alloc (.cells #[.slice ad n cap] 22)).alloc (.cells #[.int .i64 120] 3) := by
 go_enter Tryz.func165, Tryz.ntmps165
 go_wp2
 exact bodyPost_ret (results_tmp rfl _ _ _) rfl ⟨rfl, rfl⟩
def nCh (n : Nat) : Nat := (n + 119) / 120
def cLen (n j : Nat) : Nat := min 120 (n - j * 120)
abbrev cVal (b n j : Nat) : Value := .slice (some ⟨b, j * 120 * 2, none⟩) (cLen n j) (cLen n j)
def encC (b n : Nat) (j : Nat) : Array Value := #[cVal b n j]
theorem chunk_seq (Bx By b n cap : Nat) (w : World) (hn : n ≤ 1000000000) (hcap : n ≤ cap) (hc : w.cell? ⟨Bx, 0, none⟩ = some (.slice (some ⟨b, 0, none⟩) n cap)) (hd : w.cell? ⟨By, 0, none⟩ = some (.int .i64 120)) :
 SeqR Tryz.prog 201 #[.pointer (some ⟨Bx, 0, none⟩), .pointer (some ⟨By, 0, none⟩)] (encC b n) (fun k => k = Bx ∨ k = By) (fun _ => False) (fun xs => xs = List.range (nCh n)) (fun pre => pre <+: List.range (nCh n)) w := by
 intro L J Jx W hW hJ hJx hY h0
 have hc1 : W.cell? ⟨Bx, 0, none⟩ = some (.slice (some ⟨b, 0, none⟩) n cap) := hW.cell hc (fun h => h (.inl rfl))
 have hd1 : W.cell? ⟨By, 0, none⟩ = some (.int .i64 120) := hW.cell hd (fun h => h (.inr rfl))
 have HY := Hj hY; have HJd := Hj hJ
 clear hY hJ hJx hc hd hW
 refine callsIn_of_wp Tryz.func201 rfl trivial ?_ rfl
 simp only [Tryz.ntmps201, List.size_toArray, List.length_cons, List.length_nil, Nat.reduceAdd, Nat.reduceSub, Array.replicate_succ, Array.replicate_zero, List.push_toArray, List.append_toArray, List.nil_append, List.cons_append]
 gi_wp2
 gi_loopw [4] (fun t4 wr => ∃ j : Nat, j ≤ nCh n ∧ t4 = .int .i64 ((j : Int) * 120) ∧ wr.cell? ⟨Bx, 0, none⟩ = some (.slice (some ⟨b, 0, none⟩) n cap) ∧ wr.cell? ⟨By, 0, none⟩ = some (.int .i64 120) ∧ Hid (J (List.range j) wr)) (fun t4 wr => (nCh n) * 120 - (intOf t4).toNat)
 case atStart => exact ⟨0, by omega, by simp, hc1, hd1, Hj h0⟩
 case round =>
  obtain ⟨j, hj, rfl, hcb, hdb, HJ⟩ := hrel
  clear hc1 hd1 h0
  by_cases hlt : j * 120 < n
  · have hlt' : ((j : Int) * 120) < n := by omega
    have hj0 : (0 : Int) ≤ (j : Int) * 120 := by omega
    have hc2 : (0 : Int) < (n : Int) - (j : Int) * 120 := by omega
    gi_wp2
    gi_big_region
    obtain ⟨m, hm⟩ : ∃ m, m = cLen n j := ⟨_, rfl⟩
    have hm1 : min (120 : Int) ((n - j * 120 : Nat) : Int) = (m : Int) := by rw [hm]; unfold cLen; omega
    have hm2 : m ≤ 120 := by rw [hm]; unfold cLen; omega
    have hm3 : 0 < m := by rw [hm]; unfold cLen; omega
    have hm4 : j * 120 + m ≤ n := by rw [hm]; unfold cLen; omega
    have hm5 : (j : Int) * 120 + m ≤ cap := by omega
    have hm6 : (0 : Int) ≤ (j : Int) * 120 + m := by omega
    have hm7 : (j : Int) * 120 ≤ (j : Int) * 120 + m := by omega
    have hm8 : (j : Int) * 120 + m ≤ 2000000000 := by omega
    have hm9 : (j : Int) * 120 ≤ 2000000000 := by omega
    rw [hm1]
    have HM := Hj hm
    clear hm hm1
    obtain ⟨wq, hwq⟩ : ∃ wq, wq = wr.drew := ⟨_, rfl⟩
    have hcq : wq.cell? ⟨Bx, 0, none⟩ = some (.slice (some ⟨b, 0, none⟩) n cap) := by rw [hwq]; exact hcb
    have hdq : wq.cell? ⟨By, 0, none⟩ = some (.int .i64 120) := by rw [hwq]; exact hdb
    rw [← hwq]
    have hJq : J (List.range j) wq := HJd.out _ _ _ HJ.out (by rw [hwq]; exact (Keeps.refl _ _).drew)
    have hjn : j < nCh n := by unfold nCh; omega
    have hpre : List.range (j + 1) <+: List.range (nCh n) := ⟨(List.range (nCh n)).drop (j + 1), by
     have : List.range (j + 1) = (List.range (nCh n)).take (j + 1) := by rw [List.take_range, Nat.min_eq_left (by omega)]
     rw [this, List.take_append_drop]⟩
    obtain ⟨fn, tmps, assign, body, hyy, hR⟩ := HY.out (List.range j) j wq hJq (by rw [← List.range_succ]; exact hpre)
    rw [← List.range_succ] at hR
    simp only [encC, cVal] at hyy
    rw [← HM.out] at hyy
    have hmz : (j * 120 + m) - j * 120 = m := by omega
    have HPX := Hj hpre
    have HJN := Hj hjn
    clear hwq hcb hdb hJq hpre HJ hjn
    gi_wp2
    refine ⟨rfl, hR.mono ?_⟩
    rintro e W3 (⟨rfl, hJ3, hk3⟩ | ⟨rfl, hJx3, hk3⟩)
    · have hc3 := hk3.cell hcq (fun h => h (.inl rfl))
      have hd3 := hk3.cell hdq (fun h => h (.inr rfl))
      have HJ3 := Hj hJ3
      clear hJ3 hk3 hyy hcq hdq
      gi_wp2
      exact ⟨⟨j + 1, by have := HJN.out; omega, by rw [show ((j + 1 : Nat) : Int) * 120 = (j : Int) * 120 + 120 by omega], hc3, hd3, HJ3⟩, by have := HJN.out; simp [intOf]; omega⟩
    · have HJx3 := Hj hJx3
      clear hJx3 hk3 hyy hcq hdq
      gi_wp2
      refine bodyPost_ret (results_none rfl _ _ _) rfl ?_
      exact ⟨⟨_, rfl⟩, .inr ⟨_, HPX.out, HJx3.out⟩⟩
  · have hlt' : ¬ ((j : Int) * 120) < n := by omega
    have hjn : j = nCh n := by unfold nCh at hj ⊢; omega
    subst hjn
    gi_wp2
    go_end0
    first | exact ⟨⟨_, rfl⟩, .inl ⟨_, rfl, HJ.out⟩⟩ | exact ⟨⟨_, rfl⟩, .inl HJ.out⟩ | exact .inl HJ.out
end
section
set_option maxHeartbeats 1000000
set_option maxRecDepth 100000
open Go.RowKit Go.Shelf
attribute [local go_sem] Oper.semAt_some
def valC (b n : Nat) (xs : List Nat) : List Value := xs.map (cVal b n)
theorem valC_append (b n : Nat) (x y : List Nat) : valC b n (x ++ y) = valC b n x ++ valC b n y := by simp [valC]
theorem appseqC_any (b n : Nat) (gf : Nat) (eg : ∀ args w, (callFunc gf args).run Tryz.prog w = .ok (.enter gf args) w) (lb : Array Value) (ow : Nat → Prop) (S Sp : List Nat → Prop) (w : World) (hseq : SeqR Tryz.prog gf lb (encC b n) ow (fun _ => False) S Sp w) (how : ∀ k, ow k → k < w.heap.size) (hlen : ∀ pre, Sp pre → pre.length ≤ 1099511627776) :
 Calls Tryz.prog 200 #[.slice none 0 0, .func (.func gf) #[] lb] w fun e w' => ∃ v rs, e = .returned v ∧ S rs ∧ w'.ownsRow w.heap.size 22 1 v rs.length (valC b n rs) ∧ Keeps (fun _ => False) w w' := by
 have HSeq := Hj hseq; have HOw := Hj how; have HLen := Hj hlen
 clear hseq how hlen
 refine (callsIn_wide (n := 0)).1 ?_
 refine callsIn_of_wp_marks Tryz.func200 rfl trivial ?_ rfl
 simp only [Tryz.ntmps200, List.size_toArray, List.length_cons, List.length_nil, Nat.reduceAdd, Nat.reduceSub, Array.replicate_succ, Array.replicate_zero, List.push_toArray, List.append_toArray, List.nil_append, List.cons_append]
 gi_wp2
 obtain ⟨W0, hW0⟩ : ∃ W0, W0 = (w.alloc (.cells #[.slice none 0 0] 165)) := ⟨_, rfl⟩
 have hsz : W0.heap.size = w.heap.size + 1 := by rw [hW0]; simp
 have hkW : ∀ S, Keeps S w W0 := fun S => by rw [hW0]; exact (Keeps.refl S w).alloc _
 have hbox : W0.heap[w.heap.size]? = some (.cells #[.slice none 0 0] 165 (0, 0)) := by rw [hW0]; exact heap_alloc_new w _
 rw [← hW0]
 clear hW0
 refine qbj (gf := gf) (lb := lb) (w := W0) rfl eg
  (HSeq.out.later (hkW _)) (T := fun k => k = w.heap.size ∨ w.heap.size + 3 ≤ k) (fun x => rfl) (fun _ h => h.elim)
  (fun k hk => by have := HOw.out k hk; omega) ?hT ?hT2
  (fun pre W => ∃ v', W.heap[w.heap.size]? = some (.cells #[v'] 165 (0, 0)) ∧ W.ownsRow (w.heap.size + 3) 22 1 v' pre.length (valC b n pre) ∧ Keeps (fun _ => False) w W)
  (fun _ _ _ => False) ?hI (fun _ _ _ _ h _ => h) ?h0
  (fun x => { tmps := #[.slice none 0 0, .func (.func gf) #[] lb, .pointer (some ⟨w.heap.size, 0, none⟩), undef, .slice none 0 0, .slice (some ⟨b, x * 120 * 2, none⟩) (cLen n x) (cLen n x), .func (.func gf) #[] lb, .slice (some ⟨b, x * 120 * 2, none⟩) (cLen n x) (cLen n x), undef, undef, undef, undef, undef], defers := [] })
  ?assign ?body ?done ?stop
 case hT =>
  rintro k (rfl | hk) e
  · have := HOw.out _ e; omega
  · have := HOw.out _ e; omega
 case hT2 => rintro k (rfl | hk) <;> omega
 case hI =>
  rintro pre A B ⟨v', h1, h2, h3⟩ hk
  refine ⟨v', hk.heap h1 ?_, hk.row h2 (fun g hg hs => ?_), h3.trans hk (fun k hk hs => ?_)⟩
  · rintro (e | e | e)
    · exact e
    · omega
    · omega
  · have := (h2.lt g hg).1
    rcases hs with e | e | e
    · exact e
    · omega
    · omega
  · rcases hs with e | e | e
    · exact e
    · omega
    · omega
 case h0 => exact ⟨_, hbox, World.ownsRow_nil _ _ _ _, hkW _⟩
 case assign =>
  intro lp x W K hK
  simp only [encC]
  gi_wp2
  exact hK
 case body =>
  rintro lp pre x W ⟨v', h1, h2, h3⟩ hsp hsz2
  have hb1 : w.heap.size + 3 ≤ W.heap.size := by omega
  have hc0 : W.cell? ⟨w.heap.size, 0, none⟩ = some v' := by rw [cell_of_row _ _ _ _ _ _ h1]; rfl
  have hf0 : W.frozen? ⟨w.heap.size, 0, none⟩ = false := frozen_of_row _ _ _ _ _ h1
  have hlp : pre.length ≤ 1099511627776 := by have := HLen.out _ hsp; simp at this; omega
  have H1 := Hj h1; have H2 := Hj h2; have H3 := Hj h3
  obtain ⟨ad', cap', rfl⟩ := qac h2
  clear h1 h2 h3 hsp
  gi_wp2_with (gi_at_builtin; refine appEIn elMs rfl _ _ rfl (w.heap.size + 3) _ _ pre.length 1 _ [.slice (some ⟨b, x * 120 * 2, none⟩) (cLen n x) (cLen n x)] rfl rfl (H2.out.alloc _) (rd_new _ 1 1 [.slice (some ⟨b, x * 120 * 2, none⟩) (cLen n x) (cLen n x)] 22 1 rfl (Nat.le_refl _)) (by simp [Value.oneCell']) (by omega) (by simp; omega) ?_)
  intro v2 w2 hown' hgrow hnew
  obtain ⟨ad2, cap2, rfl⟩ := qac hown'
  have hk2 : Keeps (own (.slice ad' pre.length cap')) W w2 := ((Keeps.refl (own _) W).alloc _).grown hgrow (fun k _ e => e)
  have hvb : ¬ own (.slice ad' pre.length cap') w.heap.size := fun e => by have := (H2.out.lt _ e).1; omega
  have d0 : w2.cell? ⟨w.heap.size, 0, none⟩ = some (.slice ad' pre.length cap') := hk2.cell hc0 hvb
  have e0 : w2.frozen? ⟨w.heap.size, 0, none⟩ = false := (qbq hk2 hc0 hvb).trans hf0
  have hlo : ∀ g, (Value.slice ad2 (pre.length + 1) cap2).ownBlock = some g → w.heap.size + 3 ≤ g := fun g hg => (hown'.lt g hg).1
  have hset : Keeps (fun k => k = w.heap.size) w2 (w2.setCell ⟨w.heap.size, 0, none⟩ (.slice ad2 (pre.length + 1) cap2)) := (Keeps.refl (fun k => k = w.heap.size) w2).setCell (p := ⟨w.heap.size, 0, none⟩) (fun _ => rfl) _
  have fin : bodyC (fun k => k = w.heap.size ∨ w.heap.size + 3 ≤ k)
   (fun pre W => ∃ v', W.heap[w.heap.size]? = some (.cells #[v'] 165 (0, 0)) ∧ W.ownsRow (w.heap.size + 3) 22 1 v' pre.length (valC b n pre) ∧ Keeps (fun _ => False) w W) (fun _ _ _ => False) (pre ++ [x]) W .normal { tmps := #[], defers := [] } (w2.setCell ⟨w.heap.size, 0, none⟩ (.slice ad2 (pre.length + 1) cap2)) := by
   have kk : Keeps (fun k => k = w.heap.size ∨ w.heap.size + 3 ≤ k) W (w2.setCell ⟨w.heap.size, 0, none⟩ (.slice ad2 (pre.length + 1) cap2)) :=
    (hk2.mono (S' := fun k => k = w.heap.size ∨ w.heap.size + 3 ≤ k) (fun k _ e => .inr (H2.out.lt _ e).1)).trans hset (fun k _ e => .inl e)
   refine ⟨kk, .slice ad2 (pre.length + 1) cap2, ?_, ?_, H3.out.trans kk (fun k hk e => by omega)⟩
   · have := heap_setCell_same w2 w.heap.size 0 _ _ (.slice ad2 (pre.length + 1) cap2) (hk2.heap H1.out hvb)
     simpa using this
   · rw [valC_append, List.length_append, List.length_singleton]
     exact hset.row hown' (fun g hg e => by have := hlo g hg; omega)
  have HF := Hj fin
  clear hown' hgrow hnew hk2 hvb hc0 hf0 hset fin hlo
  gi_wp2
  exact HF.out
 case done =>
  rintro D xs W hS ⟨v', h1, h2, h3⟩ hD hK
  have hc0 : W.cell? ⟨w.heap.size, 0, none⟩ = some v' := by rw [cell_of_row _ _ _ _ _ _ h1]; rfl
  have H2 := Hj h2; have H3 := Hj h3; have HS := Hj hS
  clear h1 h2 h3 hS
  gi_wp2
  refine ⟨by simp, .inl ⟨_, _, rfl, run_takeDeferred hK, ?_⟩⟩
  refine ⟨_, results_tmp rfl _ _ _, ⟨_, _, rfl, HS.out, ?_⟩⟩
  have hp : Keeps (fun k => k = D) W (W.putObj D (.deferred none)) := Keeps.putObj _ _ _ rfl
  refine ⟨qao (hp.row H2.out (fun g hg e => ?_)) (fun g hg => by have := (H2.out.lt g hg).1; omega), H3.out.trans hp (fun k hk e => by omega)⟩
  obtain ⟨c', hc'⟩ := qak H2.out hg
  subst e
  rw [hK] at hc'
  cases hc'
 case stop => rintro D c pre W _ h; exact h.elim
theorem collectC_any (b n : Nat) (gf : Nat) (eg : ∀ args w, (callFunc gf args).run Tryz.prog w = .ok (.enter gf args) w) (lb : Array Value) (ow : Nat → Prop) (S Sp : List Nat → Prop) (w : World) (hseq : SeqR Tryz.prog gf lb (encC b n) ow (fun _ => False) S Sp w) (how : ∀ k, ow k → k < w.heap.size) (hlen : ∀ pre, Sp pre → pre.length ≤ 1099511627776) :
 Calls Tryz.prog 164 #[.func (.func gf) #[] lb] w fun e w' => ∃ v rs, e = .returned v ∧ S rs ∧ w'.ownsRow w.heap.size 22 1 v rs.length (valC b n rs) ∧ Keeps (fun _ => False) w w' := by
 have HSeq := Hj hseq; have HOw := Hj how; have HLen := Hj hlen; have HEg := Hj eg
 clear hseq how hlen eg
 go_enter Tryz.func164, Tryz.ntmps164
 go_wp2_with (go_at_call 200; refine (appseqC_any b n gf HEg.out lb ow S Sp w HSeq.out HOw.out HLen.out).mono ?_; rintro e w1 ⟨v, rs, rfl, hS, hr, hk⟩; obtain ⟨ad, cap, rfl⟩ := qac hr)
 go_ret
 exact ⟨_, _, rfl, hS, hr, hk⟩
def partS (l : List Smp) (j : Nat) : List Smp := (l.drop (j * 120)).take 120
theorem qdk (l : List Smp) (j : Nat) : (partS l j).length = cLen l.length j := by unfold partS cLen; rw [List.length_take, List.length_drop]
theorem part_rd {w : World} {b cap : Nat} {l : List Smp} (h : RdS w (.slice (some ⟨b, 0, none⟩) l.length cap) l) {j : Nat} (hj : j < nCh l.length) : RdS w (cVal b l.length j) (partS l j) := by
 obtain ⟨hl, a', c', hv, hc, h0 | ⟨b', off', hb, hcell⟩⟩ := h
 · unfold nCh at hj; omega
 · cases hv; cases hb
   refine ⟨by rw [smpC_length], _, cLen l.length j, by rw [qdk], Nat.le_of_eq (qdk l j), .inr ⟨b, j * 120 * 2, rfl, fun i u hu => ?_⟩⟩
   have e : smpC (partS l j) = ((smpC l).drop (j * 120 * 2)).take (120 * 2) := by unfold smpC partS; rw [qft, qfu]
   rw [e, List.getElem?_take] at hu
   split at hu
   · rw [List.getElem?_drop] at hu
     have := hcell _ _ hu
     rw [Nat.zero_add] at this
     exact this
   · cases hu
theorem split_any (ad : Option Addr) (cap : Nat) (l : List Smp) (w : World) (h : RdS w (.slice ad l.length cap) l) (hn : l ≠ []) (hl : l.length ≤ 1000000000) :
 Calls Tryz.prog 119 #[.slice ad l.length cap] w fun e w' => ∃ v' b, e = .returned v' ∧ w'.ownsRow w.heap.size 22 1 v' (nCh l.length) (valC b l.length (List.range (nCh l.length))) ∧ Hid (∀ j, j < nCh l.length → RdS w' (cVal b l.length j) (partS l j)) ∧ (∃ cur, w'.heap[b]? = some (.cells cur 28 (0, 0))) ∧ Keeps (fun _ => False) w w' := by
 have HCL := Hj (cloneSmp_any ad cap l w h hn (by omega))
 clear h
 have hpos : l.length ≠ 0 := fun e => hn (List.eq_nil_of_length_eq_zero e)
 have HPOS := Hj hpos
 clear hn hpos
 go_enter Tryz.func119, Tryz.ntmps119
 go_wp2_with (first
  | (go_at_call 6
     refine HCL.out.mono ?_
     rintro e w1 ⟨v1, rfl, hr1, hk1⟩
     obtain ⟨b, c1, cur, hv, hbase, hb, h1, h2, h3, h4⟩ := qdp hr1 HPOS.out
     subst hv
     have HR1 := Hj hr1; have HK1 := Hj hk1; have HBS := Hj hbase; have HB := Hj hb; have HC1 := Hj h1
     clear hr1 hk1 hbase hb h1 h2 h3 h4)
  | (go_at_call 165
     refine (chunkseq_any (some ⟨b, 0, none⟩) l.length c1 w1).mono ?_
     rintro e w2 ⟨rfl, hw2⟩
     have hk2 : Keeps (fun _ => False) w1 w2 := by rw [hw2]; exact ((Keeps.refl _ w1).alloc _).alloc _
     have hs2 : w2.heap.size = w1.heap.size + 2 := by rw [hw2]; simp
     have hx : w2.cell? ⟨w1.heap.size, 0, none⟩ = some (.slice (some ⟨b, 0, none⟩) l.length c1) := by rw [hw2, cell_of_row _ _ _ _ _ _ (heap_alloc _ (heap_alloc_new w1 _))]; rfl
     have hy : w2.cell? ⟨w1.heap.size + 1, 0, none⟩ = some (.int .i64 120) := by
      rw [hw2]
      have := heap_alloc_new (w1.alloc (.cells #[.slice (some ⟨b, 0, none⟩) l.length c1] 22)) (.cells #[.int .i64 120] 3)
      rw [World.size_alloc] at this
      rw [cell_of_row _ _ _ _ _ _ this]; rfl
     have HSEQ := Hj (collectC_any b l.length 201 (enters_of Tryz.func201 (by kernel_rfl) rfl) _ _ _ _ w2 (chunk_seq w1.heap.size (w1.heap.size + 1) b l.length c1 w2 hl HC1.out hx hy) (fun k hk => hk.elim (fun e => by omega) (fun e => by omega)) (fun pre hp => by have := hp.length_le; rw [List.length_range] at this; unfold nCh at this; omega))
     have HK2 := Hj hk2
     clear hw2 hk2 hs2 hx hy)
  | (go_at_call 164; refine HSEQ.out.mono ?_; rintro e w3 ⟨v3, rs, rfl, hrs, hr3, hk3⟩; subst hrs; obtain ⟨a3, c3, rfl⟩ := qac hr3; have HR3 := Hj hr3; have HK3 := Hj hk3; clear hr3 hk3))
 go_ret
 have hkk := HK2.out.trans HK3.out (fun _ _ e => e)
 refine ⟨_, b, rfl, ?_, Hj (fun j hj => ?_), ⟨_, hkk.heap HB.out (fun e => e)⟩, HK1.out.trans hkk (fun _ _ e => e)⟩
 · have := HR3.out
   rw [List.length_range] at this
   exact qao this (fun g hg => by have := (this.lt g hg).1; have := HK1.out.size; have := HK2.out.size; omega)
 · exact Rd.keeps (part_rd (rd_row HR1.out) hj) hkk (fun _ _ e => e)
end
section
open Go.RowKit Go.ChangeMaps
abbrev keyV (x : Lab) : Value := .agg #[.string x.1, .string x.2]
theorem keyV_inj {x y : Lab} (h : keyV x = keyV y) : x = y := by
 simp only [keyV, Value.agg.injEq, Array.mk.injEq, List.cons.injEq, Value.string.injEq, and_true] at h
 exact Prod.ext h.1 h.2
theorem keyOf_two {P : Program} {k s : TypeId} {a b : Field} (hu : P.underlying k = some (.struct #[a, b])) (ha : a.type = s) (hb : b.type = s) (ho : a.offset = 0) (hp : b.offset = 1) (hn : (a.name != "_") = true) (hm : (b.name != "_") = true)
 (hs : P.underlying s = some .string) (hk : P.keyType k = true) (hc : P.cellsOf k = 2) (hd : P.cellsOf s = 1) (hz : 1 ≤ P.types.size) (x y : ByteArray) (h1 : x.size ≤ maxLen) (h2 : y.size ≤ maxLen) :
 keyOf P k (.agg #[.string x, .string y]) = some (.string (keyBytes [.string x.data.toList, .string y.data.toList])) := by
 obtain ⟨m, hz⟩ : ∃ m, P.types.size = m + 1 := ⟨P.types.size - 1, by omega⟩
 have hf : (Value.agg #[.string x, .string y]).formed P k = true := by simp [Value.formed, hu, hc]
 simp [keyOf, hu, hk, hf, Program.keyLits, hz, hc, hd, ha, hb, ho, hp, hn, hm, hs, h1, h2, Value.cells]
theorem qez (x : Lab) (h1 : x.1.size ≤ maxLen) (h2 : x.2.size ≤ maxLen) : ∃ kl, keyOf Tryz.prog 94 (keyV x) = some kl :=
 ⟨_, keyOf_two Tryz.underlying94 rfl rfl rfl rfl (by decide) (by decide) Tryz.underlying9 (by kernel_rfl) (by kernel_rfl) (by kernel_rfl) (Nat.le_of_ble_eq_true (by kernel_rfl)) x.1 x.2 h1 h2⟩
def entL (es : List (Lab × Value)) : List MapEntry := es.mapIdx fun i e => ⟨keyV e.1, e.2, i⟩
def entA (es : List (Lab × Value)) : Array MapEntry := (entL es).toArray
theorem entL_length (es : List (Lab × Value)) : (entL es).length = es.length := by simp [entL]
theorem qcf (es : List (Lab × Value)) (j : Nat) : (entL es)[j]? = (es[j]?).map fun e => ⟨keyV e.1, e.2, j⟩ := by simp [entL]
theorem qhx {es : List (Lab × Value)} {y : MapEntry} (h : y ∈ entL es) : ∃ j e, es[j]? = some e ∧ y = ⟨keyV e.1, e.2, j⟩ := by
 obtain ⟨j, hj⟩ := List.mem_iff_getElem?.1 h
 rw [qcf] at hj
 cases he : es[j]? with
 | none => rw [he] at hj; cases hj
 | some e => rw [he] at hj; exact ⟨j, e, he, (Option.some.inj hj).symm⟩
theorem entL_born (es : List (Lab × Value)) : (entL es).map (·.born) = List.range es.length := by
 apply List.ext_getElem?
 intro j
 simp only [List.getElem?_map, qcf]
 by_cases h : j < es.length
 · simp [h]
 · simp [h]
theorem entL_snoc (es : List (Lab × Value)) (e : Lab × Value) : entL (es ++ [e]) = entL es ++ [⟨keyV e.1, e.2, es.length⟩] := by simp [entL]
def MapAt (w : World) (M : Nat) (es : List (Lab × Value)) : Prop := w.heap[M]? = some (.map (entA es) es.length)
def MapFit (es : List (Lab × Value)) : Prop := ∀ e ∈ es, e.1.1.size ≤ maxLen ∧ e.1.2.size ≤ maxLen
theorem MapFit.keys {es : List (Lab × Value)} (h : MapFit es) : ∀ y ∈ entL es, ∃ l, keyOf Tryz.prog 94 y.key = some l := fun y hy => by
 obtain ⟨j, e, he, rfl⟩ := qhx hy
 exact qez e.1 (h e (List.mem_of_getElem? he)).1 (h e (List.mem_of_getElem? he)).2
def keyIx {α : Type} (es : List (Lab × α)) (x : Lab) : Option Nat := (es.map (·.1)).findIdx? fun k => decide (k = x)
theorem find_at {α : Type} {es : List (Lab × α)} (hn : (es.map (·.1)).Nodup) {j : Nat} {e : Lab × α} (h : es[j]? = some e) : keyIx es e.1 = some j := by
 unfold keyIx
 rw [List.findIdx?_eq_some_iff_getElem]
 obtain ⟨hj, rfl⟩ := List.getElem?_eq_some_iff.1 h
 refine ⟨by simpa using hj, by simp, fun i hi => ?_⟩
 have h2 := List.pairwise_iff_getElem.1 hn i j (by simp; omega) (by simp; omega) hi
 simp only [List.getElem_map] at h2
 simpa using h2
theorem qfj {α : Type} {es : List (Lab × α)} {x : Lab} (h : keyIx es x = none) : ∀ e ∈ es, e.1 ≠ x := fun e he => by
 unfold keyIx at h
 rw [List.findIdx?_eq_none_iff] at h
 simpa using h e.1 (List.mem_map.2 ⟨e, he, rfl⟩)
theorem qcq {α : Type} {es : List (Lab × α)} {x : Lab} {j : Nat} (h : keyIx es x = some j) : ∃ v, es[j]? = some (x, v) := by
 unfold keyIx at h
 rw [List.findIdx?_eq_some_iff_getElem] at h
 obtain ⟨hj, h1, _⟩ := h
 rw [List.length_map] at hj
 refine ⟨es[j].2, ?_⟩
 rw [List.getElem?_eq_getElem hj]
 have h2 : es[j].1 = x := by simpa using h1
 rw [← h2]
theorem putObj_self {w : World} {r : Nat} {o : Obj} (h : w.heap[r]? = some o) : w.putObj r o = w := by
 obtain ⟨hl, rfl⟩ := Array.getElem?_eq_some_iff.1 h
 have : w.heap.setIfInBounds r w.heap[r] = w.heap := by
  apply Array.ext
  · simp
  · intro i h1 h2
    rw [Array.getElem_setIfInBounds (by simpa using h2)]
    split
    · rename_i e; subst e; rfl
    · rfl
 simp only [World.putObj, this]
theorem qji (w : World) {es : List (Lab × Value)} (F : MapFit es) (hn : (es.map (·.1)).Nodup) (x : Lab) (h1 : x.1.size ≤ maxLen) (h2 : x.2.size ≤ maxLen) :
 (keyIx es x = none → (Instr.findKey 94 (keyV x) (entL es)).run Tryz.prog w = .ok none w) ∧ (∀ j v, es[j]? = some (x, v) → (Instr.findKey 94 (keyV x) (entL es)).run Tryz.prog w = .ok (some (j, v)) w) := by
 obtain ⟨kl, hk⟩ := qez x h1 h2
 rcases keyL.find w hk (entL es) F.keys with ⟨r, hne⟩ | ⟨i, y, r, hi, hy⟩
 · refine ⟨fun _ => r, fun j v hj => ?_⟩
   have hm : (⟨keyV x, v, j⟩ : MapEntry) ∈ entL es := List.mem_of_getElem? (by rw [qcf, hj]; rfl)
   exact absurd rfl (hne _ hm)
 · obtain ⟨i', e, he, rfl⟩ := qhx (List.mem_of_getElem? hi)
   obtain rfl : i' = i := by
    rw [qcf] at hi
    cases h : es[i]? with
    | none => rw [h] at hi; cases hi
    | some e' => rw [h] at hi; simp at hi; exact hi.2.2.symm
   have hx := keyV_inj hy
   refine ⟨fun h => absurd hx (qfj h e (List.mem_of_getElem? he)), fun j v hj => ?_⟩
   have hij : some j = some i' := (find_at hn hj).symm.trans (by have := find_at hn he; rw [hx] at this; exact this)
   obtain rfl : j = i' := Option.some.inj hij
   rw [he] at hj
   obtain rfl := Option.some.inj hj
   exact r
section
variable {w : World} {M : Nat} {es : List (Lab × Value)}
theorem entA_get (es : List (Lab × Value)) (j : Nat) : (entA es)[j]? = (es[j]?).map fun e => ⟨keyV e.1, e.2, j⟩ := by simp [entA, qcf]
theorem qbd (es : List (Lab × Value)) : (entA es).toList = entL es := rfl
theorem qhc (hM : MapAt w M es) (F : MapFit es) (hn : (es.map (·.1)).Nodup) (x : Lab) (h1 : x.1.size ≤ maxLen) (h2 : x.2.size ≤ maxLen) (h : keyIx es x = none) :
 (Instr.mapEntry 230 (.map (some M)) (keyV x)).run Tryz.prog w = .ok (.tuple #[.slice none 0 0, .int .i64 (es.length : Int)]) (w.putObj M (.map (entA (es ++ [(x, .slice none 0 0)])) (es.length + 1))) := by
 obtain ⟨kl, hk⟩ := qez x h1 h2
 have hf := (qji w F hn x h1 h2).1 h
 have hp : (entA es).push ⟨keyV x, .slice none 0 0, es.length⟩ = entA (es ++ [(x, .slice none 0 0)]) := by
  apply Array.ext'
  rw [Array.toList_push, qbd, qbd, entL_snoc]
 simp [Instr.mapEntry, run_underlying Tryz.underlying230, MapKept.run_getObj_map hM, keyL.check w false hk, qbd, hf, Tryz.zeroValue125, MapKept.run_setObj_map _ hM, Result.andThen, goInt, World.putObj, hp]
theorem qhd (hM : MapAt w M es) (F : MapFit es) (hn : (es.map (·.1)).Nodup) (x : Lab) (h1 : x.1.size ≤ maxLen) (h2 : x.2.size ≤ maxLen) {j : Nat} {v : Value} (h : es[j]? = some (x, v)) :
 (Instr.mapEntry 230 (.map (some M)) (keyV x)).run Tryz.prog w = .ok (.tuple #[v, .int .i64 (j : Int)]) w := by
 obtain ⟨kl, hk⟩ := qez x h1 h2
 have hf := (qji w F hn x h1 h2).2 j v h
 have hp : (entA es).modify j (fun e => { e with key := keyV x }) = entA es := by
  apply Array.ext'
  rw [Array.toList_modify, qbd, modify_eq_set _ _ _ ⟨keyV x, v, j⟩ (by rw [qcf, h]; rfl)]
  exact Go.WideElems.set_self _ _ _ (by rw [qcf, h]; rfl)
 have hs : ({ w with heap := w.heap.setIfInBounds M (.map (entA es) es.length) } : World) = w := putObj_self hM
 simp [Instr.mapEntry, run_underlying Tryz.underlying230, MapKept.run_getObj_map hM, keyL.check w false hk, qbd, hf, entA_get, h, keyL.stays w hk, hp, MapKept.run_setObj_map _ hM, Result.andThen, goInt, hs]
theorem qjj {P : Program} (hM : MapAt w M es) {j : Nat} {x : Lab} {v : Value} (h : es[j]? = some (x, v)) (t : TypeId) (val : Value) :
 (Instr.entryStore t (.map (some M)) (.int .i64 (j : Int)) val).run P w = .ok () (w.putObj M (.map (entA (es.set j (x, val))) es.length)) := by
 have hi : (entA es).findIdx? (fun e => ((e.born : Nat) : Int) == ((j : Nat) : Int)) = some j := by
  rw [Go.WideElems.findIdx_arr]
  exact Go.WideElems.findIdx_born (l := (entA es).toList) (e0 := ⟨keyV x, v, j⟩) (by rw [qbd, entL_born]; exact List.nodup_range) (by rw [qbd, qcf, h]; rfl)
 have hm : (entA es).modify j (fun e => { e with val := val }) = entA (es.set j (x, val)) := by
  apply Array.ext'
  rw [Array.toList_modify, qbd, qbd, modify_eq_set _ _ _ ⟨keyV x, v, j⟩ (by rw [qcf, h]; rfl)]
  apply List.ext_getElem?
  intro i
  rw [qcf, List.getElem?_set, List.getElem?_set, entL_length, qcf]
  by_cases hij : j = i
  · subst hij
    have := (List.getElem?_eq_some_iff.1 h).1
    simp [this]
  · simp [hij]
 simp [Instr.entryStore, MapKept.run_getObj_map hM, asInt, asIntOf, hi, hm, MapKept.run_setObj_map _ hM, Result.andThen, World.putObj]
theorem run_lookupL (hM : MapAt w M es) (F : MapFit es) (hn : (es.map (·.1)).Nodup) (x : Lab) (h1 : x.1.size ≤ maxLen) (h2 : x.2.size ≤ maxLen) {j : Nat} {v : Value} (h : es[j]? = some (x, v)) :
 (Instr.lookup 230 (.map (some M)) (keyV x) false).run Tryz.prog w = .ok v w := by
 obtain ⟨kl, hk⟩ := qez x h1 h2
 have hf := (qji w F hn x h1 h2).2 j v h
 simp [Instr.lookup, run_underlying Tryz.underlying230, MapKept.run_getObj_map hM, keyL.check w (entA es).isEmpty hk, qbd, hf, Result.andThen]
theorem run_nextL {P : Program} {r c : Nat} {seen : Array Nat} (hr : w.heap[r]? = some (.mapIter (some M) es.length seen c)) (hM : MapAt w M es) (hc : es.length ≤ c) :
 ((∀ j, j < es.length → j ∈ seen.toList) ∧ ∀ ty, (Instr.next (.pointer (some ⟨r, 0, none⟩)) false ty).run P w = .ok (.tuple #[.bool false]) w) ∨
 ∃ j e w1, es[j]? = some e ∧ j ∉ seen.toList ∧ (w1 = w ∨ w1 = w.drew) ∧ ∀ ty, (Instr.next (.pointer (some ⟨r, 0, none⟩)) false ty).run P w = .ok (.tuple #[.bool true, keyV e.1, e.2]) (w1.putObj r (.mapIter (some M) es.length (seen.push j) es.length)) := by
 have hold : ∀ y ∈ (entA es).toList, y.born < es.length := fun y hy => by
  obtain ⟨j, e, he, rfl⟩ := qhx hy
  exact (List.getElem?_eq_some_iff.1 he).1
 rcases run_next_at (P := P) w 0 r M es.length c seen (entA es) es.length hr hM hold hc with ⟨h0, hrun⟩ | ⟨y, hy, w1, hw1, hrun⟩
 · refine .inl ⟨fun j hj => ?_, fun _ => hrun⟩
   have hn : Go.leftOf (entA es) seen = #[] := Array.eq_empty_of_size_eq_zero h0
   unfold Go.leftOf at hn
   rw [Array.filter_eq_empty_iff] at hn
   have he : (entA es)[j]? = some ⟨keyV es[j].1, es[j].2, j⟩ := by rw [entA_get, List.getElem?_eq_getElem hj]; rfl
   have := hn _ (Array.mem_of_getElem? he)
   simpa using this
 · obtain ⟨hy1, hy2⟩ := mem_left hy
   obtain ⟨j, e, he, rfl⟩ := qhx hy1
   refine .inr ⟨j, e, w1, he, by simpa using hy2, hw1, fun _ => hrun⟩
theorem run_entryL {P : Program} {r c : Nat} {seen : Array Nat} {j : Nat} {e : Lab × Value} (hr : w.heap[r]? = some (.mapIter (some M) c (seen.push j) es.length)) (hM : MapAt w M es) (he : es[j]? = some e) :
 (Instr.entry (.pointer (some ⟨r, 0, none⟩))).run P w = .ok (.tuple #[keyV e.1, e.2]) w :=
 run_entry_at (P := P) w r M c seen (entA es) es.length ⟨keyV e.1, e.2, j⟩ hr hM (by rw [qbd]; exact List.mem_of_getElem? (by rw [qcf, he]; rfl)) (by rw [qbd, entL_born]; exact List.nodup_range)
end
end
section
open Go.RowKit
theorem elU : ElT Tryz.prog 29 5 1 140737488355328 := ⟨Tryz.underlying29, by obtain ⟨i, h1, h2, h3, h4⟩ := info_parts infoU8; exact ⟨i, _, h1, h2, h3, by rw [h4]; decide, rfl⟩, by decide, by decide⟩
end
section
open Go.RowKit Go.Shelf
attribute [local go_sem] Oper.semAt_some
theorem chunks_any (ad : Option Addr) (n cap : Nat) (w : World) : Calls Tryz.prog 63 #[.slice ad n cap] w fun e w' => e = .returned (.func (.func 118) #[] #[.pointer (some ⟨w.heap.size, 0, none⟩)]) ∧ w' = w.alloc (.cells #[.slice ad n cap] 37) := by
 go_enter Tryz.func63, Tryz.ntmps63
 go_wp2
 exact bodyPost_ret (results_tmp rfl _ _ _) rfl ⟨rfl, rfl⟩
end
section
open Go.RowKit Go.Shelf
attribute [local go_sem] Oper.semAt_some
end
section
set_option maxHeartbeats 2000000
set_option maxRecDepth 100000
open Go.RowKit
theorem qjq (w : World) : Calls Tryz.prog 79 #[.int .i64 0] w fun e w' => e = .returned (.tuple #[]) ∧ w' = w := by
 go_enter Tryz.func79, Tryz.ntmps79
 go_wp2_with fail
 go_end0
 exact ⟨rfl, rfl⟩
theorem mustT_ok (v : Value) (w : World) : Calls Tryz.prog 74 #[v, .int .i64 0] w fun e w' => e = .returned v ∧ w' = w := by
 have hn := fun w => qjq w
 go_enter Tryz.func74, Tryz.ntmps74
 go_wp2_with (go_at_call 79; refine (hn _).mono ?_; rintro e w1 ⟨rfl, rfl⟩)
 go_ret
 exact ⟨rfl, rfl⟩
theorem mustR_ok (v : Value) (w : World) : Calls Tryz.prog 76 #[v, .int .i64 0] w fun e w' => e = .returned v ∧ w' = w := by
 have hn := fun w => qjq w
 go_enter Tryz.func76, Tryz.ntmps76
 go_wp2_with (go_at_call 79; refine (hn _).mono ?_; rintro e w1 ⟨rfl, rfl⟩)
 go_ret
 exact ⟨rfl, rfl⟩
theorem mustS_ok (v : Value) (w : World) : Calls Tryz.prog 80 #[v, .int .i64 0] w fun e w' => e = .returned v ∧ w' = w := by
 have hn := fun w => qjq w
 go_enter Tryz.func80, Tryz.ntmps80
 go_wp2_with (go_at_call 79; refine (hn _).mono ?_; rintro e w1 ⟨rfl, rfl⟩)
 go_ret
 exact ⟨rfl, rfl⟩
theorem mustP_ok (v : Value) (w : World) : Calls Tryz.prog 83 #[v, .int .i64 0] w fun e w' => e = .returned v ∧ w' = w := by
 have hn := fun w => qjq w
 go_enter Tryz.func83, Tryz.ntmps83
 go_wp2_with (go_at_call 79; refine (hn _).mono ?_; rintro e w1 ⟨rfl, rfl⟩)
 go_ret
 exact ⟨rfl, rfl⟩
theorem caught_ok (p q : Value) (w : World) : Calls Tryz.prog 73 #[.nilIface, p, q] w fun e w' => e = .returned (.tuple #[]) ∧ w' = w := by
 go_enter Tryz.func73, Tryz.ntmps73
 go_wp2_with fail
 first | go_end0 | (refine bodyPost_ret (results_none rfl _ _ _) rfl ?_)
 exact ⟨rfl, rfl⟩
end
section
set_option maxHeartbeats 2000000
set_option maxRecDepth 100000
open Go.RowKit
theorem qbl (w : World) (n : Nat) : Keeps (fun _ => False) w (w.drewN n) := ⟨rfl, rfl, rfl, Nat.le_refl _, fun _ _ _ => rfl⟩
def RRd (w : World) (q p : Nat) (tv : Value) (n : Nat) : Prop := w.heap[q]? = some (.cells #[.pointer (some ⟨p, 0, none⟩), tv, .int .i64 (n : Int)] 246 (0, 0))
theorem RRd.c0 {w : World} {q p : Nat} {tv : Value} {n : Nat} (h : RRd w q p tv n) : w.cell? ⟨q, 0, none⟩ = some (.pointer (some ⟨p, 0, none⟩)) := by rw [cell_of_row _ _ _ _ _ _ h]; rfl
theorem RRd.c1 {w : World} {q p : Nat} {tv : Value} {n : Nat} (h : RRd w q p tv n) : w.cell? ⟨q, 1, none⟩ = some tv := by rw [cell_of_row _ _ _ _ _ _ h]; rfl
theorem RRd.c2 {w : World} {q p : Nat} {tv : Value} {n : Nat} (h : RRd w q p tv n) : w.cell? ⟨q, 2, none⟩ = some (.int .i64 (n : Int)) := by rw [cell_of_row _ _ _ _ _ _ h]; rfl
theorem RRd.ne {w : World} {q p : Nat} {tv v : Value} {n i e : Nat} {l : List Nat} (h : RRd w q p tv n) (hr : IsRd w p v l i e) : q ≠ p := qaf h hr.blk (by decide)
theorem RRd.keeps {S : Nat → Prop} {a b : World} {q p : Nat} {tv : Value} {n : Nat} (h : RRd a q p tv n) (k : Keeps S a b) (hS : ¬ S q) : RRd b q p tv n := k.heap h hS
theorem qjr {q p : Nat} {tv v : Value} {l : List Nat} {i n j : Nat} {w : World} (hq : RRd w q p tv l.length) (h : IsRd w p v l i 0) (hr : rdUint l i 0 18446744073709551615 = (n, j, 0)) (hn : n ≤ l.length - j) (hl : l.length ≤ 1000000000) :
 Calls Tryz.prog 182 #[.pointer (some ⟨q, 0, none⟩)] w fun e w' => e = .returned (.int .i64 (n : Int)) ∧ IsRd w' p v l j 0 ∧ Keeps (fun k => k = p) w w' := by
 have c0 := hq.c0
 have hne := hq.ne h
 have HU := Hj (qdt h 18446744073709551615)
 rw [hr] at HU
 have HQ := Hj hq
 clear h hr hq
 go_enter Tryz.func182, Tryz.ntmps182
 go_upto_region 2 with (go_at_call 188; refine HU.out.mono ?_; rintro e w1 ⟨rfl, hrd, hk⟩)
 have c0' := (HQ.out.keeps hk hne).c0
 have c2' := (HQ.out.keeps hk hne).c2
 have hjl := hrd.le
 have hat := fun k => qel (hrd.keep (qbl w1 k))
 have her := fun k => qcb (hrd.keep (qbl w1 k))
 have hw1 : IntKind.i64.wrap ((l.length : Int) - (j : Int)) = ((l.length - j : Nat) : Int) := by rw [IntWalk.i64_in _ (by omega)]; omega
 have hw2 : IntKind.u64.wrap ((l.length - j : Nat) : Int) = ((l.length - j : Nat) : Int) := by rw [IntWalk.u64_in _ (by omega)]
 have hw3 : decide (l.length - j < n) = false := by simp; omega
 have HRD := Hj hrd; have HK := Hj hk
 obtain ⟨L, hL⟩ : ∃ L, L = l.length - j := ⟨_, rfl⟩
 rw [← hL] at hw1 hw2 hw3
 clear hrd hk c0 hL
 go_quiet (first | (go_at_call 134; exact Calls.quiet_of_same (her _)) | (go_at_call 87; exact Calls.quiet_of_same (hat _)))
 have hw4 : IntKind.i64.wrap (n : Int) = n := by rw [IntWalk.i64_in _ (by omega)]
 go_wp2_with (go_at_call 134; refine (her _).mono ?_; rintro e w2 ⟨rfl, rfl⟩)
 go_ret
 exact ⟨rfl, HRD.out.keep (qbl _ _), HK.out.drewN _⟩
theorem qlb {q p : Nat} {ta : Option Addr} {tc : Nat} {v : Value} {l : List Nat} {tb : List ByteArray} {i k j : Nat} {s : ByteArray} {w : World} (hq : RRd w q p (.slice ta tb.length tc) l.length) (h : IsRd w p v l i 0) (hT : RdT w (.slice ta tb.length tc) tb) (hTp : ∀ g, (Value.slice ta tb.length tc).ownBlock = some g → g ≠ p) (hr : rdUint l i 0 18446744073709551615 = (k, j, 0)) (hs : tb[k]? = some s) (hl : tb.length ≤ 1000000000) :
 Calls Tryz.prog 213 #[.pointer (some ⟨q, 0, none⟩)] w fun e w' => e = .returned (.string s) ∧ IsRd w' p v l j 0 ∧ Keeps (fun k => k = p) w w' := by
 have c0 := hq.c0
 have hne := hq.ne h
 have HU := Hj (qdt h 18446744073709551615)
 rw [hr] at HU
 have HQ := Hj hq; have HT := Hj hT; have HTP := Hj hTp; have HS := Hj hs
 have hk : k < tb.length := (List.getElem?_eq_some_iff.1 hs).1
 clear h hr hq hT hTp hs
 go_enter Tryz.func213, Tryz.ntmps213
 go_upto_region 2 with (go_at_call 188; refine HU.out.mono ?_; rintro e w1 ⟨rfl, hrd, hk⟩)
 have hq1 := HQ.out.keeps hk hne
 have c0' := hq1.c0
 have c1' := hq1.c1
 have her := qcb hrd
 have hT1 : RdT w1 (.slice ta tb.length tc) tb := Rd.keeps HT.out hk (fun g hg e => HTP.out g hg e)
 obtain ⟨b, o, ea, cs⟩ := RdT.at hT1 HS.out
 subst ea
 have hw2 : IntKind.u64.wrap (tb.length : Int) = (tb.length : Int) := by rw [IntWalk.u64_in _ (by omega)]
 have hw3 : decide (tb.length ≤ k) = false := by simp; omega
 have HRD := Hj hrd; have HK := Hj hk
 obtain ⟨L, hL⟩ : ∃ L, L = tb.length := ⟨_, rfl⟩
 clear hrd hk c0 hT1 hq1
 have hk0 : (0 : Int) ≤ k := by omega
 have hk1 : (k : Int) < tb.length := by omega
 go_wp2_with (go_at_call 134; refine her.mono ?_; rintro e w2 ⟨rfl, rfl⟩)
 go_ret
 exact ⟨rfl, HRD.out, HK.out⟩
theorem rlength_ok {q p : Nat} {tv v : Value} {l : List Nat} {i k j : Nat} {w : World} (hq : RRd w q p tv l.length) (h : IsRd w p v l i 0) (hr : rdUint l i 0 18446744073709551615 = (k, j, 0)) (h1 : 1 ≤ k) (h2 : k ≤ 2147483647) :
 Calls Tryz.prog 186 #[.pointer (some ⟨q, 0, none⟩)] w fun e w' => e = .returned (.int .i64 (k : Int)) ∧ IsRd w' p v l j 0 ∧ Keeps (fun k => k = p) w w' := by
 have c0 := hq.c0
 have HU := Hj (qdt h 18446744073709551615)
 rw [hr] at HU
 have a1 : (1 : Int) ≤ k := by omega
 have a2 : (k : Int) ≤ 2147483647 := by omega
 clear h hr hq
 go_enter Tryz.func186, Tryz.ntmps186
 go_wp2_with (go_at_call 188; refine HU.out.mono ?_; rintro e w1 ⟨rfl, hrd, hk⟩)
 go_ret
 exact ⟨rfl, hrd, hk⟩
theorem rlabel_ok {q p : Nat} {ta : Option Addr} {tc : Nat} {v : Value} {l : List Nat} {tb : List ByteArray} {i k j k2 j2 : Nat} {s s2 : ByteArray} {w : World} (hq : RRd w q p (.slice ta tb.length tc) l.length) (h : IsRd w p v l i 0) (hT : RdT w (.slice ta tb.length tc) tb) (hTp : ∀ g, (Value.slice ta tb.length tc).ownBlock = some g → g ≠ p) (hr : rdUint l i 0 18446744073709551615 = (k, j, 0)) (hs : tb[k]? = some s)
 (hr2 : rdUint l j 0 18446744073709551615 = (k2, j2, 0)) (hs2 : tb[k2]? = some s2) (hl : tb.length ≤ 1000000000) :
 Calls Tryz.prog 184 #[.pointer (some ⟨q, 0, none⟩)] w fun e w' => e = .returned (.agg #[.string s, .string s2]) ∧ IsRd w' p v l j2 0 ∧ Keeps (fun k => k = p) w w' := by
 obtain ⟨W0, hW0⟩ : ∃ W0, W0 = w.alloc (.cells #[.string ⟨#[]⟩, .string ⟨#[]⟩] 94) := ⟨_, rfl⟩
 have hk0 : Keeps (fun _ => False) w W0 := by rw [hW0]; exact (Keeps.refl _ _).alloc _
 have hr0 : W0.heap[w.heap.size]? = some (.cells #[.string ⟨#[]⟩, .string ⟨#[]⟩] 94 (0, 0)) := by rw [hW0]; exact heap_alloc_new w _
 have hne := hq.ne h
 have hlt := h.lt
 have HS1 := Hj (qlb (hq.keeps hk0 (fun e => e)) (h.keep hk0) (Rd.keeps hT hk0 (fun _ _ e => e)) hTp hr hs hl)
 have hgo : ∀ w1, IsRd w1 p v l j 0 → Keeps (fun k => k = p) W0 w1 → Calls Tryz.prog 213 #[.pointer (some ⟨q, 0, none⟩)] w1 fun e w' => e = .returned (.string s2) ∧ IsRd w' p v l j2 0 ∧ Keeps (fun k => k = p) w1 w' := fun w1 hi hk => qlb ((hq.keeps hk0 (fun e => e)).keeps hk hne) hi (Rd.keeps (Rd.keeps hT hk0 (fun _ _ e => e)) hk (fun g hg e => hTp g hg e)) hTp hr2 hs2 hl
 have HGO := Hj hgo; have HW0 := Hj hW0; have HR0 := Hj hr0; have HK0 := Hj hk0
 clear hgo hr0 hk0 hq h hT hTp hr hs hr2 hs2 hW0
 go_enter Tryz.func184, Tryz.ntmps184
 go_upto_region 2 with (go_at_call 213; rw [← HW0.out]; refine HS1.out.mono ?_; rintro e w1 ⟨rfl, hi1, hk1⟩)
 have HG2 := Hj (HGO.out w1 hi1 hk1)
 have HK1 := Hj hk1
 clear hi1 hk1
 have hb1 : Hid (∀ w2, Keeps (fun k => k = p) w1 w2 → w2.heap[w.heap.size]? = some (.cells #[.string ⟨#[]⟩, .string ⟨#[]⟩] 94 (0, 0))) := Hj (fun w2 hk => hk.heap (HK1.out.heap HR0.out (by omega)) (by omega))
 go_wp2_with (first
  | (go_at_call 213
     refine HG2.out.mono ?_
     rintro e w2 ⟨rfl, hi2, hk2⟩
     have HI2 := Hj hi2; have HK2 := Hj hk2
     clear hi2 hk2)
  | (refine wpList_store_row rfl 94 _ _ rfl w.heap.size #[.string s, .string s2] rfl rfl 94 _ (hb1.out _ HK2.out) (by kernel_rfl) rfl (by simp [Value.oneCell']) ?_))
 obtain ⟨W3, hW3⟩ : ∃ W3, W3 = w2.setRow w.heap.size #[.string s, .string s2] := ⟨_, rfl⟩
 rw [← hW3]
 have k3 : Keeps (fun k => k = w.heap.size) w2 W3 := by rw [hW3]; exact qax (Keeps.refl _ _) _ _ (fun _ => rfl)
 have r3 : W3.heap[w.heap.size]? = some (.cells #[.string s, .string s2] 94 (0, 0)) := by rw [hW3]; exact setRow_heap _ _ _ _ _ _ (hb1.out _ HK2.out)
 refine bodyPost_ret (results_cell_row Tryz.results184 _ _ w.heap.size 94 _ (0, 0) _ rfl r3 Tryz.underlying94 rfl (by kernel_rfl)) rfl ?_
 refine ⟨rfl, HI2.out.keeps k3 (by omega) (fun g hg e => ?_), ?_⟩
 · obtain ⟨cur, hc⟩ := qak HI2.out.row hg
   exact qaf hc (hb1.out _ HK2.out) (by decide) e
 · exact ((((HK0.out.mono (S' := fun k => k = p) (fun _ _ e => e.elim)).trans HK1.out (fun _ _ e => e)).trans HK2.out (fun _ _ e => e)).trans k3 (fun k hk e => by omega))
end
end Go.Proofs.YtfpcgcbehdogjaaGreatDoor
