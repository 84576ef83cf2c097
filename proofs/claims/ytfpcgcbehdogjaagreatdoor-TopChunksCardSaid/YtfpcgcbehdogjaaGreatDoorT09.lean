/-
  Lemmas on which LTopChunks rests, packed out of the texts WVarA PRuns WTimesB WRunA WTimesC WRunB WRef05b WLabC; each for all arguments under the hypotheses it names.
-/
import Derived.Test.YtfpcgcbehdogjaaGreatDoorT05
import Derived.Shelf.RegionOpen
import Derived.TacticsInMore
import Derived.LoopNIn
import Derived.LoopIn
import Derived.Sort.QuietIn
import Derived.Deep.RegionHeld3
import Derived.Deep.DrawnRows
import Derived.Test.YtfpcgcbehdogjaaGreatDoorT06
import Derived.Laws.EntriesVeiled
namespace Go.Proofs.YtfpcgcbehdogjaaGreatDoor
section
set_option maxHeartbeats 1000000
set_option maxRecDepth 100000
open Go.RowKit Go.Shelf
attribute [local go_sem] Oper.semAt_some
def encG (p : Nat × Bool) : Array Value := #[.int .u8 ((p.1 : Nat) : Int), .bool p.2]
def leftOf (w : World) (b : Nat) : Nat := match w.cell? ⟨b, 0, none⟩ with | some (.int _ y) => y.toNat | _ => 0
theorem leftOf_eq {w : World} {b y : Nat} {k : IntKind} (h : w.cell? ⟨b, 0, none⟩ = some (.int k (y : Nat))) : leftOf w b = y := by simp [leftOf, h]
theorem groupsF_small (n y : Nat) (h : y < 128) : qbu n y = [(y, true)] := by cases n <;> simp [qbu, h]
theorem groupsF_big (n y : Nat) (h : 128 ≤ y) (hn : y < 128 ^ (n + 1)) : ∃ m, n = m + 1 ∧ qbu n y = (y % 128, false) :: qbu m (y / 128) ∧ y / 128 < 128 ^ (m + 1) := by
 cases n with
 | zero => omega
 | succ m => exact ⟨m, rfl, by simp only [qbu]; rw [if_neg (by omega)], Nat.div_lt_of_lt_mul (by rw [Nat.pow_succ] at hn; omega)⟩
theorem groups_seq (Bn X : Nat) (w : World) (hX : X ≤ 18446744073709551615) (hc : w.cell? ⟨Bn, 0, none⟩ = some (.int .u64 (X : Nat))) (hf : w.frozen? ⟨Bn, 0, none⟩ = false) :
 SeqC Tryz.prog 207 #[.pointer (some ⟨Bn, 0, none⟩)] encG (fun k => k = Bn) (fun xs => xs = qbu 9 X) (fun pre => pre <+: qbu 9 X) w := by
 intro l J Jx W hW hJ hJx hY h0
 have hc1 : W.cell? ⟨Bn, 0, none⟩ = some (.int .u64 (X : Nat)) := hW.cell hc (fun h => h rfl)
 have hf1 : W.frozen? ⟨Bn, 0, none⟩ = false := (qca hW hc (fun h => h rfl)).trans hf
 clear hc hf hW
 refine callsIn_of_wp Tryz.func207 rfl trivial ?_ rfl
 simp only [Tryz.ntmps207, List.size_toArray, List.length_cons, List.length_nil, Nat.reduceAdd, Nat.reduceSub, Array.replicate_succ, Array.replicate_zero, List.push_toArray, List.append_toArray, List.nil_append, List.cons_append]
 have HY := Hj hY
 have HJ := Hj hJ
 have HJx := Hj hJx
 clear hY hJ hJx
 gi_wp2
 gi_loopw [] (fun wr => ∃ (n y : Nat) (pre : List (Nat × Bool)), y < 128 ^ (n + 1) ∧ pre ++ qbu n y = qbu 9 X ∧ wr.cell? ⟨Bn, 0, none⟩ = some (.int .u64 (y : Nat)) ∧ wr.frozen? ⟨Bn, 0, none⟩ = false ∧ J pre wr)
  (fun wr => leftOf wr Bn)
 case atStart => exact ⟨9, X, [], by omega, rfl, hc1, hf1, h0⟩
 case round =>
  obtain ⟨n, y, pre, hy, hx, hcy, hfy, hJp⟩ := hrel
  by_cases hlt : 128 ≤ y
  · obtain ⟨m, rfl, hg, hym⟩ := groupsF_big n y hlt hy
    rw [hg] at hx
    have hpx : pre ++ [(y % 128, false)] <+: qbu 9 X := ⟨qbu m (y / 128), by rw [← hx]; simp⟩
    obtain ⟨fn, tmps, assign, body, hyy, hR⟩ := HY.out pre (y % 128, false) wr hJp hpx
    simp only [encG] at hyy
    have Hx := Hj hx; have Hpx := Hj hpx; have Hy := Hj hym; have HJp := Hj hJp
    obtain ⟨r, hr⟩ : ∃ r, r = y % 128 := ⟨_, rfl⟩
    rw [← hr] at hyy
    have hr1 : (y : Int) % 128 = r := by omega
    have hr2 : (y : Int).tmod 128 = r := by rw [Int.tmod_eq_emod_of_nonneg (by omega)]; omega
    have hr3 : IntKind.u8.wrap (r : Int) = r := IntWalk.u8_in _ (by omega)
    have Hr := Hj hr
    have hyb : (128 : Int) ≤ y := by omega
    clear hx hpx hym hJp hg hy hr
    gi_wp2
    refine ⟨rfl, hR.mono ?_⟩
    rintro e W3 (⟨rfl, hJ3, hk3⟩ | ⟨rfl, hJx3, hk3⟩)
    · have hc3 : W3.cell? ⟨Bn, 0, none⟩ = some (.int .u64 (y : Nat)) := hk3.cell hcy (fun h => h rfl)
      have hf3 : W3.frozen? ⟨Bn, 0, none⟩ = false := (qca hk3 hcy (fun h => h rfl)).trans hfy
      have HJ3 := Hj hJ3
      clear hJ3 hk3
      obtain ⟨z, hz⟩ : ∃ z, z = y / 128 := ⟨_, rfl⟩
      have hz1 : (y : Int) / 128 = z := by omega
      have Hz := Hj hz
      clear hz
      gi_wp2
      have hk : Keeps (fun k => k = Bn) W3 (W3.setCell ⟨Bn, 0, none⟩ (.int .u64 (z : Nat))) := (Keeps.refl (fun k => k = Bn) W3).setCell (p := ⟨Bn, 0, none⟩) (fun _ => rfl) _
      have hcz : (W3.setCell ⟨Bn, 0, none⟩ (.int .u64 (z : Nat))).cell? ⟨Bn, 0, none⟩ = some (.int .u64 (z : Nat)) := World.cell?_setCell_same' _ _ _ (by rw [hc3]; rfl)
      refine ⟨⟨m, z, pre ++ [(y % 128, false)], by rw [Hz.out]; exact Hy.out, by rw [Hz.out, ← Hx.out]; simp, hcz, by rw [World.frozen?_setCell]; exact hf3, ?_⟩, ?_⟩
      · have := HJ3.out
        exact HJ.out _ _ _ this hk
      · rw [leftOf_eq hcz, leftOf_eq hcy, Hz.out]; omega
    · have HJx3 := Hj hJx3
      have hc3 : W3.cell? ⟨Bn, 0, none⟩ = some (.int .u64 (y : Nat)) := hk3.cell hcy (fun h => h rfl)
      clear hJx3 hk3
      have hyn : ¬ (y : Int) < 128 := by omega
      gi_wp2
      go_end0
      exact ⟨⟨_, rfl⟩, .inr ⟨_, Hpx.out, HJx3.out⟩⟩
  · have hg := groupsF_small n y (by omega)
    rw [hg] at hx
    obtain ⟨fn, tmps, assign, body, hyy, hR⟩ := HY.out pre (y, true) wr hJp ⟨[], by rw [← hx]; simp⟩
    simp only [encG] at hyy
    have Hx := Hj hx
    have hr3 : IntKind.u8.wrap (y : Int) = y := IntWalk.u8_in _ (by omega)
    have hyb : (y : Int) < 128 := by omega
    clear hx hJp hg hy
    gi_wp2
    refine ⟨fun _ h => (by cases h), ?_⟩
    gi_wp2
    refine ⟨rfl, hR.mono ?_⟩
    rintro e W3 (⟨rfl, hJ3, hk3⟩ | ⟨rfl, hJx3, hk3⟩)
    · have HJ3 := Hj hJ3
      clear hJ3 hk3
      gi_wp2
      go_end0
      exact ⟨⟨_, rfl⟩, .inl ⟨_, Hx.out, HJ3.out⟩⟩
    · have HJ3 := Hj hJx3
      clear hJx3 hk3
      gi_wp2
      go_end0
      exact ⟨⟨_, rfl⟩, .inr ⟨_, ⟨[], by rw [← Hx.out]; simp⟩, HJ3.out⟩⟩
theorem groups_any (X : Nat) (w : World) : Calls Tryz.prog 172 #[.int .u64 X] w fun e w' => e = .returned (.func (.func 207) #[] #[.pointer (some ⟨w.heap.size, 0, none⟩)]) ∧ w' = w.alloc (.cells #[.int .u64 X] 23) := by
 have hmf : ∀ (fn : Fn) (first cap : Array Value) (w : World), (Instr.makeFunc fn first cap).run Tryz.prog w = .ok (.func fn first cap) w := fun _ _ _ _ => rfl
 go_enter Tryz.func172, Tryz.ntmps172
 go_wp2
 go_ret
 exact ⟨rfl, rfl⟩
theorem qcf (base : Nat) (v : Value) (l : List Nat) (X : Nat) (w : World) (h : w.ownsRow base 5 1 v (u8s l).length (u8s l)) (hX : X ≤ 18446744073709551615) (hl : l.length ≤ 1099511627776) (hb0 : base ≤ w.heap.size) :
 Calls Tryz.prog 125 #[v, .int .u64 X] w fun e w' => ∃ v', e = .returned v' ∧ RowTo 5 base v w v' (u8s (l ++ venc X)) w' := by
 obtain ⟨i0, hi, hz0, hz1, hz2⟩ := info_parts infoU8
 refine (callsIn_wide (n := 0)).1 ?_
 refine callsIn_of_wp_marks Tryz.func125 rfl trivial ?_ rfl
 simp only [Tryz.ntmps125, List.size_toArray, List.length_cons, List.length_nil, Nat.reduceAdd, Nat.reduceSub, Array.replicate_succ, Array.replicate_zero, List.push_toArray, List.append_toArray, List.nil_append, List.cons_append]
 obtain ⟨ad, cap, rfl⟩ := qaf h
 gi_wp2
 refine ⟨trivial, rfl, (callsIn_wide.2 (groups_any X _)).mono ?_⟩
 rintro e w1 ⟨rfl, rfl⟩
 gi_wp2
 obtain ⟨W0, hW0⟩ : ∃ W0, W0 = (w.alloc (.cells #[.slice ad (u8s l).length cap] 29)).alloc (.cells #[.int .u64 (X : Nat)] 23) := ⟨_, rfl⟩
 have hsz : W0.heap.size = w.heap.size + 2 := by rw [hW0]; simp
 have hkW : ∀ S, Keeps S w W0 := fun S => by rw [hW0]; exact ((Keeps.refl S w).alloc _).alloc _
 have hbox : W0.heap[w.heap.size]? = some (.cells #[.slice ad (u8s l).length cap] 29 (0, 0)) := by
  rw [hW0]; exact (Below.heap_alloc _ _ _ (by simp)).trans (heap_alloc_new w _)
 have hx : W0.heap[w.heap.size + 1]? = some (.cells #[.int .u64 (X : Nat)] 23 (0, 0)) := by
  rw [hW0]; have := heap_alloc_new (w.alloc (.cells #[.slice ad (u8s l).length cap] 29)) (.cells #[.int .u64 (X : Nat)] 23); rwa [World.size_alloc] at this
 rw [← hW0]
 clear hW0
 refine qcv (gf := 207) (lb := #[.pointer (some ⟨w.heap.size + 1, 0, none⟩)]) rfl (enters_of Tryz.func207 (by kernel_rfl) rfl)
  (groups_seq (w.heap.size + 1) X W0 hX (by rw [cell_of_row _ _ _ _ _ _ hx]; rfl) (frozen_of_row _ _ _ _ _ hx)) (T := fun k => k = w.heap.size ∨ own (.slice ad (u8s l).length cap) k ∨ w.heap.size + 4 ≤ k) (fun x => rfl)
  (fun k hk => by omega) ?hT ?hT2
  (fun pre W => ∃ v', W.heap[w.heap.size]? = some (.cells #[v'] 29 (0, 0)) ∧ RowTo 5 base (.slice ad (u8s l).length cap) w v' (u8s (l ++ pre.map byteOf)) W ∧
    ∀ g, v'.ownBlock = some g → own (.slice ad (u8s l).length cap) g ∨ w.heap.size + 4 ≤ g)
  (fun _ _ _ => False) ?hI (fun _ _ _ _ h _ => h) ?h0
  (fun x => { tmps := #[.slice ad (u8s l).length cap, .int .u64 (X : Nat), .pointer (some ⟨w.heap.size, 0, none⟩), undef, .slice none 0 0, .int .u8 ((x.1 : Nat) : Int), .bool x.2, .int .u64 (X : Nat), .func (.func 207) #[] #[.pointer (some ⟨w.heap.size + 1, 0, none⟩)], .int .u8 ((x.1 : Nat) : Int), .bool x.2, undef, undef, undef, undef, undef, undef, undef, undef, undef], defers := [] }) ?assign ?body ?done ?stop
 case hT =>
  rintro k (rfl | hk | hk) e
  · omega
  · have := (h.lt k hk).2; omega
  · omega
 case hT2 =>
  rintro k (rfl | hk | hk)
  · omega
  · have := (h.lt k hk).2; omega
  · omega
 case hI =>
  rintro pre A B ⟨v', h1, h2, h3⟩ hk
  refine ⟨v', hk.heap h1 (by omega), ⟨hk.row h2.row (fun g hg hs => ?_), h2.keeps.trans hk (fun k hk hs => by omega), h2.new⟩, h3⟩
  rcases h3 g hg with h' | h'
  · have := (h.lt g h').2; omega
  · omega
 case h0 => exact ⟨_, hbox, ⟨by simpa using hkW (fun _ => False) |>.row h (fun _ _ h => h), hkW _, fun g hg => .inl hg⟩, fun g hg => .inl hg⟩
 case assign =>
  intro lp x W K hK
  simp only [encG]
  gi_wp2
  exact hK
 case body =>
  rintro lp pre ⟨c, b⟩ W ⟨v', h1, h2, h3⟩ hsp hsz2
  have hb1 : base ≤ W.heap.size := by omega
  have hc0 : W.cell? ⟨w.heap.size, 0, none⟩ = some v' := by rw [cell_of_row _ _ _ _ _ _ h1]; rfl
  have hf0 : W.frozen? ⟨w.heap.size, 0, none⟩ = false := frozen_of_row _ _ _ _ _ h1
  have hrow := h2.row
  have hlen : (u8s (l ++ pre.map byteOf)).length ≤ 1099511627800 := by
   have h5 := hsp.length_le
   have h6 := groupsF_length 9 X
   rw [qac, List.length_append, List.length_map]
   simp at h5
   omega
  have hc128 : c < 128 := groupsF_lt 9 X (by omega) (c, b) (hsp.subset (by simp))
  have H1 := Hj h1; have H2 := Hj h2; have H3 := Hj h3
  have fin : ∀ (d : Nat) (v2 : Value) (w2 : World), d = byteOf (c, b) → w2.ownsRow base 5 1 v2 ((u8s (l ++ pre.map byteOf)).length + 1) (u8s (l ++ pre.map byteOf) ++ [.int .u8 (d : Nat)]) →
   (W.alloc (.cells #[.int .u8 (d : Nat)] 5)).grownBy w2 v'.ownBlock → (∀ g, v2.ownBlock = some g → v'.ownBlock = some g ∨ (W.alloc (.cells #[.int .u8 (d : Nat)] 5)).heap.size ≤ g) →
   bodyC (fun k => k = w.heap.size ∨ own (.slice ad (u8s l).length cap) k ∨ w.heap.size + 4 ≤ k)
    (fun pre W => ∃ v', W.heap[w.heap.size]? = some (.cells #[v'] 29 (0, 0)) ∧ RowTo 5 base (.slice ad (u8s l).length cap) w v' (u8s (l ++ pre.map byteOf)) W ∧
      ∀ g, v'.ownBlock = some g → own (.slice ad (u8s l).length cap) g ∨ w.heap.size + 4 ≤ g) (fun _ _ _ => False) (pre ++ [(c, b)]) W .normal { tmps := #[], defers := [] } (w2.setCell ⟨w.heap.size, 0, none⟩ v2) := by
   intro d v2 w2 hd hown' hgrow hnew
   have hk2 : Keeps (own v') W w2 := ((Keeps.refl (own v') W).alloc _).grown hgrow (fun k _ e => e)
   have hvb : ¬ own v' w.heap.size := fun e => by
    obtain ⟨c', hc'⟩ := qaj H2.out.row e
    exact qag hc' H1.out (by decide) rfl
   have hb2 := hk2.heap H1.out hvb
   have hR := H2.out.append (ys := u8s (l ++ pre.map byteOf) ++ [.int .u8 (d : Nat)]) (by simpa using hown') hgrow hnew
   have hset : Keeps (fun k => k = w.heap.size) w2 (w2.setCell ⟨w.heap.size, 0, none⟩ v2) := (Keeps.refl (fun k => k = w.heap.size) w2).setCell (p := ⟨w.heap.size, 0, none⟩) (fun _ => rfl) v2
   have hn2 : ∀ g, v2.ownBlock = some g → own (.slice ad (u8s l).length cap) g ∨ w.heap.size + 4 ≤ g := fun g hg => by
    rcases hnew g hg with h' | h'
    · exact H3.out g h'
    · simp at h'; omega
   refine ⟨?_, v2, ?_, ⟨?_, ?_, ?_⟩, hn2⟩
   · refine (hk2.mono (S' := fun k => k = w.heap.size ∨ own (.slice ad (u8s l).length cap) k ∨ w.heap.size + 4 ≤ k) (fun k _ e => ?_)).trans hset (fun k _ e => .inl e)
     rcases H3.out k e with h' | h'
     · exact .inr (.inl h')
     · exact .inr (.inr h')
   · have := heap_setCell_same w2 w.heap.size 0 _ _ v2 hb2
     simpa using this
   · have e1 : u8s (l ++ (pre ++ [(c, b)]).map byteOf) = u8s (l ++ pre.map byteOf) ++ [.int .u8 (d : Nat)] := by simp [u8s, hd]
     rw [e1]
     refine hset.row hR.row (fun g hg e => ?_)
     subst e
     rcases hn2 _ hg with h' | h'
     · have := (h.lt _ h').2; omega
     · omega
   · exact hR.keeps.trans hset (fun k hk e => by omega)
   · intro g hg
     exact hR.new g hg
  have Hfin := Hj fin
  have Hsp := Hj hsp
  clear h1 h2 h3 fin hsp
  cases b
  · have ho := or128 c hc128
    obtain ⟨d, hd⟩ : ∃ d, d = c + 128 := ⟨_, rfl⟩
    rw [← hd] at ho
    have Hd := Hj hd
    clear hd
    gi_wp2_with (gi_at_builtin; refine qcy _ rfl _ _ 29 rfl base 5 i0 (.int .u8 0) 1 1 Tryz.underlying29 hi hz0 hz1 hz2 rfl (by decide) _ _ _ rfl (hrow.alloc _) ⟨W.heap.size, 0, none⟩ 1 1 [.int .u8 (d : Nat)] rfl rfl ?c1 ?c2 ?c3 ?c4 ?c5 ?_)
    case c1 => exact cell_one_new _ _ _
    case c2 => simp [Value.oneCell']
    case c3 => unfold maxLen; omega
    case c4 => omega
    case c5 => simp; omega
    intro v2 w2 hown' hgrow hnew
    obtain ⟨ad2, cap2, rfl⟩ := qaf hown'
    have hk2 : Keeps (own v') W w2 := ((Keeps.refl (own v') W).alloc _).grown hgrow (fun k _ e => e)
    have hvb : ¬ own v' w.heap.size := fun e => by
     obtain ⟨c', hc'⟩ := qaj H2.out.row e
     exact qag hc' H1.out (by decide) rfl
    have d0 : w2.cell? ⟨w.heap.size, 0, none⟩ = some v' := hk2.cell hc0 hvb
    have e0 : w2.frozen? ⟨w.heap.size, 0, none⟩ = false := (qca hk2 hc0 hvb).trans hf0
    have HF := Hj (Hfin.out _ _ w2 (by rw [Hd.out]; rfl) hown' hgrow (by simpa using hnew))
    clear hown' hgrow hnew hk2 hvb hc0 hf0 hrow
    gi_wp2
    exact HF.out
  · gi_wp2_with (gi_at_builtin; refine qcy _ rfl _ _ 29 rfl base 5 i0 (.int .u8 0) 1 1 Tryz.underlying29 hi hz0 hz1 hz2 rfl (by decide) _ _ _ rfl (hrow.alloc _) ⟨W.heap.size, 0, none⟩ 1 1 [.int .u8 (c : Nat)] rfl rfl ?c1 ?c2 ?c3 ?c4 ?c5 ?_)
    case c1 => exact cell_one_new _ _ _
    case c2 => simp [Value.oneCell']
    case c3 => unfold maxLen; omega
    case c4 => omega
    case c5 => simp; omega
    intro v2 w2 hown' hgrow hnew
    obtain ⟨ad2, cap2, rfl⟩ := qaf hown'
    have hk2 : Keeps (own v') W w2 := ((Keeps.refl (own v') W).alloc _).grown hgrow (fun k _ e => e)
    have hvb : ¬ own v' w.heap.size := fun e => by
     obtain ⟨c', hc'⟩ := qaj H2.out.row e
     exact qag hc' H1.out (by decide) rfl
    have d0 : w2.cell? ⟨w.heap.size, 0, none⟩ = some v' := hk2.cell hc0 hvb
    have e0 : w2.frozen? ⟨w.heap.size, 0, none⟩ = false := (qca hk2 hc0 hvb).trans hf0
    have HF := Hj (Hfin.out _ _ w2 rfl hown' hgrow (by simpa using hnew))
    clear hown' hgrow hnew hk2 hvb hc0 hf0 hrow
    gi_wp2
    exact HF.out
 case done =>
  rintro D xs W rfl ⟨v', h1, h2, h3⟩ hD hK
  have hc0 : W.cell? ⟨w.heap.size, 0, none⟩ = some v' := by rw [cell_of_row _ _ _ _ _ _ h1]; rfl
  rw [venc_groups] at h2
  have H2 := Hj h2
  clear h1 h2 h3
  gi_wp2
  refine ⟨by simp, .inl ⟨_, _, rfl, run_takeDeferred hK, ?_⟩⟩
  refine ⟨_, results_tmp rfl _ _ _, ⟨_, rfl, ?_⟩⟩
  have hp : Keeps (fun k => k = D) W (W.putObj D (.deferred none)) := Keeps.putObj _ _ _ rfl
  refine ⟨hp.row H2.out.row (fun g hg e => ?_), H2.out.keeps.trans hp (fun k hk e => by omega), H2.out.new⟩
  obtain ⟨c', hc'⟩ := qaj H2.out.row hg
  subst e
  rw [hK] at hc'
  cases hc'
 case stop => rintro D c pre W _ h; exact h.elim
end
section
def lead (x : Nat) : Nat → List Nat → Nat
 | 0, _ => 0
 | _ + 1, [] => 0
 | k + 1, y :: r => if y = x then lead x k r + 1 else 0
def runsF : Nat → List Nat → List (Nat × Nat)
 | 0, _ => []
 | _ + 1, [] => []
 | n + 1, x :: r => (x, lead x 127 r + 1) :: runsF n (r.drop (lead x 127 r))
def runsOf (l : List Nat) : List (Nat × Nat) := runsF l.length l
theorem lead_le (x k : Nat) (l : List Nat) : lead x k l ≤ k ∧ lead x k l ≤ l.length := by
 induction l generalizing k with
 | nil => cases k <;> simp [lead]
 | cons y r ih =>
   cases k with
   | zero => simp [lead]
   | succ k =>
     simp only [lead]
     split
     · have := ih k; simp only [List.length_cons]; omega
     · simp
theorem lead_take (x k : Nat) (l : List Nat) : l.take (lead x k l) = List.replicate (lead x k l) x := by
 induction l generalizing k with
 | nil => cases k <;> simp [lead]
 | cons y r ih =>
   cases k with
   | zero => simp [lead]
   | succ k =>
     simp only [lead]
     split
     · rename_i h
       subst h
       simp [List.replicate_succ, ih k]
     · simp
theorem runsF_fuel (n m : Nat) (l : List Nat) (hn : l.length ≤ n) (hm : l.length ≤ m) : runsF n l = runsF m l := by
 induction n generalizing m l with
 | zero =>
   have : l = [] := List.eq_nil_of_length_eq_zero (by omega)
   subst this
   cases m <;> simp [runsF]
 | succ n ih =>
   cases l with
   | nil => cases m <;> simp [runsF]
   | cons x r =>
     cases m with
     | zero => simp at hm
     | succ m =>
       simp only [runsF]
       rw [ih m _ (by simp only [List.length_cons, List.length_drop] at hn ⊢; omega) (by simp only [List.length_cons, List.length_drop] at hm ⊢; omega)]
theorem runsOf_nil : runsOf [] = [] := rfl
theorem runsOf_cons (x : Nat) (r : List Nat) : runsOf (x :: r) = (x, lead x 127 r + 1) :: runsOf (r.drop (lead x 127 r)) := by
 unfold runsOf
 simp only [List.length_cons, runsF]
 rw [runsF_fuel r.length (r.drop (lead x 127 r)).length _ (by rw [List.length_drop]; omega) (Nat.le_refl _)]
theorem runsF_length (n : Nat) (l : List Nat) : (runsF n l).length ≤ l.length := by
 induction n generalizing l with
 | zero => simp [runsF]
 | succ n ih =>
   cases l with
   | nil => simp [runsF]
   | cons x r => simp only [runsF, List.length_cons]; have := ih (r.drop (lead x 127 r)); rw [List.length_drop] at this; omega
theorem runsOf_length (l : List Nat) : (runsOf l).length ≤ l.length := runsF_length _ _
def joinOf (rs : List (Nat × Nat)) : List Nat := rs.flatMap fun p => List.replicate p.2 p.1
theorem joinOf_cons (p : Nat × Nat) (rs : List (Nat × Nat)) : joinOf (p :: rs) = List.replicate p.2 p.1 ++ joinOf rs := by simp [joinOf]
theorem joinOf_runsF (n : Nat) (l : List Nat) (hn : l.length ≤ n) : joinOf (runsF n l) = l := by
 induction n generalizing l with
 | zero =>
   have : l = [] := List.eq_nil_of_length_eq_zero (by omega)
   subst this; rfl
 | succ n ih =>
   cases l with
   | nil => rfl
   | cons x r =>
     simp only [runsF, joinOf_cons]
     rw [ih _ (by simp only [List.length_cons, List.length_drop] at hn ⊢; omega), List.replicate_succ, ← lead_take x 127 r, List.cons_append, List.take_append_drop]
theorem joinOf_runsOf (l : List Nat) : joinOf (runsOf l) = l := joinOf_runsF _ _ (Nat.le_refl _)
def canonR : Nat × Nat → List (Nat × Nat) → Prop
 | _, [] => True
 | last, p :: rs => 1 ≤ p.2 ∧ p.2 ≤ 128 ∧ ¬ (p.1 = last.1 ∧ last.2 < 128) ∧ canonR p rs
theorem lead_stop (x : Nat) : ∀ (k : Nat) (l : List Nat) (y : Nat) (r : List Nat), l.drop (lead x k l) = y :: r → lead x k l < k → y ≠ x := by
 intro k
 induction k with
 | zero => intro l y r _ h; simp [lead] at h
 | succ k ih =>
   intro l y r hd hlt
   cases l with
   | nil => simp [lead] at hd
   | cons z t =>
     simp only [lead] at hd hlt
     by_cases h : z = x
     · rw [if_pos h] at hd hlt
       exact ih t y r (by simpa using hd) (by omega)
     · rw [if_neg h] at hd
       simp only [List.drop_zero, List.cons.injEq] at hd
       rw [← hd.1]; exact h
theorem canon_runsF (n : Nat) (l : List Nat) (hn : l.length ≤ n) : ∀ last : Nat × Nat, (∀ y r, l = y :: r → ¬ (y = last.1 ∧ last.2 < 128)) → canonR last (runsF n l) := by
 induction n generalizing l with
 | zero => intro last _; simp [runsF, canonR]
 | succ n ih =>
   intro last hl
   cases l with
   | nil => simp [runsF, canonR]
   | cons x r =>
     simp only [runsF, canonR]
     have hb := lead_le x 127 r
     refine ⟨by omega, by omega, hl x r rfl, ih _ (by simp only [List.length_cons, List.length_drop] at hn ⊢; omega) _ (fun y t hd => ?_)⟩
     rintro ⟨h1, h2⟩
     simp only at h1 h2
     exact lead_stop x 127 r y t hd (by omega) h1
theorem canon_runsOf (l : List Nat) : canonR (0, 128) (runsOf l) := canon_runsF _ _ (Nat.le_refl _) _ (fun y r _ h => by simp at h)
def encRun (p : Nat × Nat) : List Bool := qaa p.1 64 ++ qaa (p.2 - 1) 7
def qav (rs : List (Nat × Nat)) : List Bool := rs.flatMap encRun
theorem encRun_length (p : Nat × Nat) : (encRun p).length = 71 := by simp [encRun, qab]
theorem qcj (rs : List (Nat × Nat)) : (qav rs).length = 71 * rs.length := by
 induction rs with
 | nil => rfl
 | cons p rs ih => simp only [qav, List.flatMap_cons, List.length_append, encRun_length, List.length_cons] at ih ⊢; omega
theorem encRuns_cons (p : Nat × Nat) (rs : List (Nat × Nat)) : qav (p :: rs) = encRun p ++ qav rs := by simp [qav]
theorem encRuns_snoc (p : Nat × Nat) (rs : List (Nat × Nat)) : qav (rs ++ [p]) = qav rs ++ encRun p := by simp [qav]
def rget : Nat → Nat → Nat × Nat → List Bool → Nat × List (Nat × Nat) × List Bool
 | 0, _, _, b => (0, [], b)
 | f + 1, n, last, b =>
   if n = 0 then (0, [], b) else
   if b.length < 64 then (3, [], b) else
   if b.length < 71 then (3, [], b.drop 64) else
   if n < qae ((b.drop 64).take 7) + 1 ∨ (qae (b.take 64) = last.1 ∧ last.2 < 128) then (8, [], b.drop 71) else
   ((rget f (n - (qae ((b.drop 64).take 7) + 1)) (qae (b.take 64), qae ((b.drop 64).take 7) + 1) (b.drop 71)).1,
     (qae (b.take 64), qae ((b.drop 64).take 7) + 1) :: (rget f (n - (qae ((b.drop 64).take 7) + 1)) (qae (b.take 64), qae ((b.drop 64).take 7) + 1) (b.drop 71)).2.1,
     (rget f (n - (qae ((b.drop 64).take 7) + 1)) (qae (b.take 64), qae ((b.drop 64).take 7) + 1) (b.drop 71)).2.2)
def after (acc : List (Nat × Nat)) (r : Nat × List (Nat × Nat) × List Bool) : Nat × List (Nat × Nat) × List Bool := (r.1, acc ++ r.2.1, r.2.2)
theorem rget_done (f n : Nat) (last : Nat × Nat) (b : List Bool) (h : n = 0) : rget f n last b = (0, [], b) := by subst h; cases f <;> simp [rget]
theorem rget_eof1 (f n : Nat) (last : Nat × Nat) (b : List Bool) (h : n ≠ 0) (hb : b.length < 64) : rget (f + 1) n last b = (3, [], b) := by rw [rget, if_neg h, if_pos hb]
theorem rget_eof2 (f n : Nat) (last : Nat × Nat) (b : List Bool) (h : n ≠ 0) (h1 : 64 ≤ b.length) (hb : b.length < 71) : rget (f + 1) n last b = (3, [], b.drop 64) := by rw [rget, if_neg h, if_neg (by omega), if_pos hb]
theorem rget_bad (f n x c : Nat) (last : Nat × Nat) (b : List Bool) (h : n ≠ 0) (h1 : 71 ≤ b.length) (hx : qae (b.take 64) = x) (hc : qae ((b.drop 64).take 7) + 1 = c) (hb : n < c ∨ (x = last.1 ∧ last.2 < 128)) : rget (f + 1) n last b = (8, [], b.drop 71) := by
 rw [rget, if_neg h, if_neg (by omega), if_neg (by omega), hx, hc, if_pos hb]
theorem rget_step (f n x c : Nat) (last : Nat × Nat) (b : List Bool) (h : n ≠ 0) (h1 : 71 ≤ b.length) (hx : qae (b.take 64) = x) (hc : qae ((b.drop 64).take 7) + 1 = c) (hb : ¬ (n < c ∨ (x = last.1 ∧ last.2 < 128))) :
 rget (f + 1) n last b = after [(x, c)] (rget f (n - c) (x, c) (b.drop 71)) := by
 rw [rget, if_neg h, if_neg (by omega), if_neg (by omega), hx, hc, if_neg hb]; rfl
theorem after_after (a b : List (Nat × Nat)) (r : Nat × List (Nat × Nat) × List Bool) : after a (after b r) = after (a ++ b) r := by simp [after]
theorem rget_complete (pad : List Bool) : ∀ (rs : List (Nat × Nat)) (f n : Nat) (last : Nat × Nat), n ≤ f → (joinOf rs).length = n → (∀ p ∈ rs, p.1 < 18446744073709551616) → canonR last rs → rget f n last (qav rs ++ pad) = (0, rs, pad) := by
 intro rs
 induction rs with
 | nil => intro f n last hf hn _ _; rw [rget_done _ _ _ _ (by simpa [joinOf] using hn.symm)]; rfl
 | cons p rs ih =>
   rintro f n last hf hn hp ⟨h1, h2, h3, h4⟩
   obtain ⟨x, c⟩ := p
   simp only at h1 h2 h3
   rw [joinOf_cons, List.length_append, List.length_replicate] at hn
   simp only at hn
   obtain ⟨g, rfl⟩ : ∃ g, f = g + 1 := ⟨f - 1, by omega⟩
   have hx := hp (x, c) (by simp)
   simp only at hx
   have e0 : qav ((x, c) :: rs) ++ pad = qaa x 64 ++ (qaa (c - 1) 7 ++ (qav rs ++ pad)) := by rw [encRuns_cons]; simp [encRun]
   have e1 : (qav ((x, c) :: rs) ++ pad).take 64 = qaa x 64 := by rw [e0, List.take_left' (by rw [qab])]
   have e2 : (qav ((x, c) :: rs) ++ pad).drop 64 = qaa (c - 1) 7 ++ (qav rs ++ pad) := by rw [e0, List.drop_left' (by rw [qab])]
   have e3 : ((qav ((x, c) :: rs) ++ pad).drop 64).take 7 = qaa (c - 1) 7 := by rw [e2, List.take_left' (by rw [qab])]
   have e4 : (qav ((x, c) :: rs) ++ pad).drop 71 = qav rs ++ pad := by
    rw [show (71 : Nat) = 64 + 7 from rfl, ← List.drop_drop, e2, List.drop_left' (by rw [qab])]
   have e5 : qae ((qav ((x, c) :: rs) ++ pad).take 64) = x := by rw [e1, qba]; exact Nat.mod_eq_of_lt (by omega)
   have e6 : qae (((qav ((x, c) :: rs) ++ pad).drop 64).take 7) + 1 = c := by rw [e3, qba, Nat.mod_eq_of_lt (by omega)]; omega
   have hlen : 71 ≤ (qav ((x, c) :: rs) ++ pad).length := by rw [List.length_append, qcj, List.length_cons]; omega
   rw [rget_step _ _ x c _ _ (by omega) hlen e5 e6 (fun h => h.elim (fun h => by omega) h3), e4, ih g (n - c) (x, c) (by omega) (by omega) (fun p hp' => hp p (by simp [hp'])) h4]
   rfl
theorem joinOf_mem {rs : List (Nat × Nat)} {p : Nat × Nat} (hp : p ∈ rs) (h1 : 1 ≤ p.2) : p.1 ∈ joinOf rs := by
 simp only [joinOf, List.mem_flatMap]
 exact ⟨p, hp, by simp; omega⟩
theorem canonR_pos : ∀ (rs : List (Nat × Nat)) (last : Nat × Nat), canonR last rs → ∀ p ∈ rs, 1 ≤ p.2 ∧ p.2 ≤ 128 := by
 intro rs
 induction rs with
 | nil => intro _ _ p hp; simp at hp
 | cons q rs ih =>
   rintro last ⟨h1, h2, h3, h4⟩ p hp
   rcases List.mem_cons.1 hp with rfl | hp
   · exact ⟨h1, h2⟩
   · exact ih _ h4 p hp
theorem runsOf_mem {l : List Nat} {p : Nat × Nat} (hp : p ∈ runsOf l) : p.1 ∈ l ∧ 1 ≤ p.2 ∧ p.2 ≤ 128 := by
 have h := canonR_pos _ _ (canon_runsOf l) p hp
 refine ⟨?_, h⟩
 have := joinOf_mem hp h.1
 rwa [joinOf_runsOf] at this
#print axioms rget_complete
end
section
set_option maxHeartbeats 2000000
set_option maxRecDepth 100000
open Go.RowKit Go.Shelf
attribute [local go_sem] Oper.semAt_some
def encI (x : Int) : Array Value := #[.int .i64 x]
theorem i64s_nil {l : List Int} (h : l = []) : i64s l = [] := by rw [h]; rfl
theorem ownI_lt {w : World} {v : Value} {l : List Int} (h : Holds w v (i64s l)) {k : Nat} (hk : ownH v l k) : k < w.heap.size := by
 obtain ⟨g, hg, hlt⟩ := h.lt (fun e => hk.1 (by cases l <;> simp_all [i64s]))
 have h2 := hk.2
 rw [hg] at h2
 simp only [Option.some.injEq] at h2
 omega
theorem long_cell {w : World} {ad : Option Addr} {cap : Nat} {l : List Int} (h : Holds w (.slice ad l.length cap) (i64s l)) {j : Nat} {y : Int} (hj : l[j]? = some y) :
 ∃ b off, ad = some ⟨b, off, none⟩ ∧ w.cell? ⟨b, off + j, none⟩ = some (.int .i64 y) := by
 obtain ⟨b, off, cap', hv, hc⟩ := h.index (j := j) (u := .int .i64 y) (by simp [i64s, hj])
 simp only [Value.slice.injEq] at hv
 exact ⟨b, off, hv.1, hc⟩
def chgFrom (d : Int) (l : List Int) (j : Nat) : List Int := match l[j - 1]? with | some t => chgF d t (l.drop j) | none => []
theorem chgFrom_one (l : List Int) : chgFrom 0 l 1 = qbj l := by cases l <;> simp [chgFrom, qbj]
theorem W_wrap64 (x : Int) : wrap64 x = W x := (IntWalk.i64_left x).symm
theorem chgFrom_step {d t s : Int} {l : List Int} {j : Nat} (ht : l[j - 1]? = some t) (hs : l[j]? = some s) : chgFrom d l j = W (W (s - t) - d) :: chgFrom (W (s - t)) l (j + 1) := by
 have hlt : j < l.length := (List.getElem?_eq_some_iff.1 hs).1
 have e : l[j] = s := by rw [List.getElem?_eq_getElem hlt] at hs; simpa using hs
 unfold chgFrom
 rw [ht, Nat.add_sub_cancel, hs]
 simp only
 rw [List.drop_eq_getElem_cons hlt, e]
 rfl
theorem chgFrom_end {d : Int} {l : List Int} {j : Nat} (h : l.length ≤ j) : chgFrom d l j = [] := by
 unfold chgFrom
 split
 · rw [List.drop_eq_nil_of_le h]; rfl
 · rfl
theorem changes_seq (Bx : Nat) (v : Value) (l : List Int) (w : World) (hl : l.length ≤ 140737488351232) (hc : w.cell? ⟨Bx, 0, none⟩ = some v) (h : Holds w v (i64s l)) (hX : ∀ x ∈ l, inI x) :
 SeqR Tryz.prog 95 #[.pointer (some ⟨Bx, 0, none⟩)] encI (fun k => k = Bx ∨ ownH v l k) (fun _ => False) (fun xs => xs = qbj l) (fun pre => pre <+: qbj l) w := by
 intro L J Jx W0 hW hJ hJx hY h0
 have hc1 : W0.cell? ⟨Bx, 0, none⟩ = some v := hW.cell hc (fun h => h (.inl rfl))
 have h1 : Holds W0 v (i64s l) := h.keepsH hW i64s_nil (fun g hg hn => hn (.inr hg))
 have HH := Hj h1; have HX := Hj hX
 obtain ⟨ad, cap, rfl, hcap, hcells⟩ := h1
 clear hcells h hc hW hX
 rw [i64s_length] at hcap hc1 HH hY
 refine callsIn_of_wp Tryz.func95 rfl trivial ?_ rfl
 simp only [Tryz.ntmps95, List.size_toArray, List.length_cons, List.length_nil, Nat.reduceAdd, Nat.reduceSub, Array.replicate_succ, Array.replicate_zero, List.push_toArray, List.append_toArray, List.nil_append, List.cons_append]
 have HY := Hj hY
 have HJ := Hj hJ
 have HJx := Hj hJx
 clear hY hJ hJx
 gi_wp2
 gi_loopw [3, 4] (fun t3 t4 wr => ∃ (j : Nat) (d : Int) (pre : List Int), 1 ≤ j ∧ (j ≤ l.length ∨ j = 1) ∧ t3 = .int .i64 d ∧ t4 = .int .i64 j ∧ inI d ∧ pre ++ chgFrom d l j = qbj l ∧ wr.cell? ⟨Bx, 0, none⟩ = some (.slice ad l.length cap) ∧ Holds wr (.slice ad l.length cap) (i64s l) ∧ J pre wr)
  (fun _ t4 wr => l.length - (intOf t4).toNat)
 case atStart => exact ⟨1, 0, [], by omega, .inr rfl, rfl, rfl, by unfold inI; omega, by rw [chgFrom_one]; rfl, hc1, HH.out, h0⟩
 case round =>
  obtain ⟨j, d, pre, hj1, hj, rfl, rfl, hd, hx, hcb, hh, hJp⟩ := hrel
  clear hc1 h0
  by_cases hlt : j < l.length
  · obtain ⟨s, hs⟩ : ∃ s, l[j]? = some s := ⟨l[j], by simp [hlt]⟩
    obtain ⟨t, ht⟩ : ∃ t, l[j - 1]? = some t := ⟨l[j - 1], List.getElem?_eq_getElem (by omega)⟩
    obtain ⟨b, off, rfl, hcs⟩ := long_cell hh hs
    obtain ⟨b', off', hbo, hct⟩ := long_cell hh ht
    simp only [Option.some.injEq, Addr.mk.injEq] at hbo
    obtain ⟨rfl, rfl, -⟩ := hbo
    rw [chgFrom_step ht hs] at hx
    obtain ⟨d2, hd2⟩ : ∃ d2, d2 = W (s - t) := ⟨_, rfl⟩
    obtain ⟨x, hxx⟩ : ∃ x, x = W (d2 - d) := ⟨_, rfl⟩
    rw [← hd2, ← hxx] at hx
    have w1 : IntKind.i64.wrap (s - t) = d2 := hd2.symm
    have w2 : wrap64 (s - t) = d2 := by rw [hd2, W_wrap64]
    have w3 : IntKind.i64.wrap (d2 - d) = x := hxx.symm
    have w4 : wrap64 (d2 - d) = x := by rw [hxx, W_wrap64]
    have hdI : inI d2 := by rw [hd2]; exact W_in _
    obtain ⟨j1, hj1e⟩ : ∃ j1, j1 = j - 1 := ⟨_, rfl⟩
    rw [← hj1e] at hct
    have w5 : (j : Int) - 1 = j1 := by omega
    have w6 : IntKind.i64.wrap (j1 : Int) = j1 := qbk j1 (by omega)
    have w7 : IntKind.i64.wrap ((j : Int) - 1) = j1 := by rw [w5, w6]
    have hjl : (j : Int) < l.length := by omega
    have hj1l : (j1 : Int) < l.length := by omega
    have hpx : pre ++ [x] <+: qbj l := ⟨chgFrom d2 l (j + 1), by rw [← hx]; simp⟩
    have HX1 := Hj hx; have HPX := Hj hpx; have HJP := Hj hJp; have Hh := Hj hh; have HD2 := Hj hd2; have HXX := Hj hxx; have HJ1 := Hj hj1e; have HDI := Hj hdI
    clear hx hpx hJp hh hd2 hxx hs ht HH hj1e hd hdI hj
    gi_wp2
    gi_quiet (fail)
    obtain ⟨wq, hwq⟩ : ∃ wq, wq = wr.drewN nq := ⟨_, rfl⟩
    rw [← hwq]
    have hcq : wq.cell? ⟨Bx, 0, none⟩ = some (.slice (some ⟨b, off, none⟩) l.length cap) := by rw [hwq]; exact hcb
    have hhq : Holds wq (.slice (some ⟨b, off, none⟩) l.length cap) (i64s l) := Hh.out.keeps (S := fun _ => False) (by rw [hwq]; exact (Keeps.refl _ _).drewN nq) (fun _ _ h => h)
    obtain ⟨fn, tmps, assign, body, hyy, hR⟩ := HY.out pre x wq (HJ.out _ _ _ HJP.out (by rw [hwq]; exact (Keeps.refl _ _).drewN nq)) HPX.out
    simp only [encI] at hyy
    have HHQ := Hj hhq
    clear hwq hhq hcs hct hcb
    gi_wp2
    refine ⟨rfl, hR.mono ?_⟩
    rintro e W3 (⟨rfl, hJ3, hk3⟩ | ⟨rfl, hJx3, hk3⟩)
    · have hc3 := hk3.cell hcq (fun h => h (.inl rfl))
      have hh3 := HHQ.out.keepsH hk3 i64s_nil (fun g hg hs => hs (.inr hg))
      have HJ3 := Hj hJ3; have HH3 := Hj hh3
      clear hJ3 hk3 hh3 hcq
      gi_wp2
      refine ⟨⟨j + 1, d2, pre ++ [x], by omega, .inl (by omega), rfl, by go_num, HDI.out, ?_, hc3, HH3.out, HJ3.out⟩, by simp [intOf]; omega⟩
      rw [← HX1.out]; simp
    · have HJx3 := Hj hJx3
      clear hJx3 hk3 hcq
      gi_wp2
      refine bodyPost_ret (results_none rfl _ _ _) rfl ?_
      exact ⟨⟨_, rfl⟩, .inr ⟨_, HPX.out, HJx3.out⟩⟩
  · rw [chgFrom_end (by omega), List.append_nil] at hx
    have hjl : ¬ (j : Int) < l.length := by omega
    have HX1 := Hj hx; have HJP := Hj hJp
    clear hx hJp hh HH
    gi_wp2
    go_end0
    exact ⟨⟨_, rfl⟩, .inl (by rw [← HX1.out]; exact HJP.out)⟩
theorem changes_any (ad : Option Addr) (len cap : Nat) (w : World) : Calls Tryz.prog 41 #[.slice ad len cap] w fun e w' => e = .returned (.func (.func 95) #[] #[.pointer (some ⟨w.heap.size, 0, none⟩)]) ∧ w' = w.alloc (.cells #[.slice ad len cap] 54) := by
 have hmf : ∀ (fn : Fn) (first cap : Array Value) (w : World), (Instr.makeFunc fn first cap).run Tryz.prog w = .ok (.func fn first cap) w := fun _ _ _ _ => rfl
 go_enter Tryz.func41, Tryz.ntmps41
 go_wp2
 go_ret
 exact ⟨rfl, rfl⟩
theorem changes_here (ad : Option Addr) (cap : Nat) (l : List Int) (w : World) (hl : l.length ≤ 140737488351232) (h : Holds w (.slice ad l.length cap) (i64s l)) (hX : ∀ x ∈ l, inI x) :
 SeqR Tryz.prog 95 #[.pointer (some ⟨w.heap.size, 0, none⟩)] encI (fun k => k = w.heap.size ∨ ownH (.slice ad l.length cap) l k) (fun _ => False) (fun xs => xs = qbj l) (fun pre => pre <+: qbj l) (w.alloc (.cells #[.slice ad l.length cap] 54)) :=
 changes_seq w.heap.size _ l _ hl (by rw [cell_of_row _ _ _ _ _ _ (heap_alloc_new w _)]; rfl) (h.keeps ((Keeps.refl (fun _ => False) w).alloc _) (fun _ _ h => h)) hX
end
section
set_option maxHeartbeats 2000000
set_option maxRecDepth 100000
open Go.RowKit Go.Shelf
attribute [local go_sem] Oper.semAt_some
def encR (p : Nat × Nat) : Array Value := #[.agg #[.int .u64 ((p.1 : Nat) : Int), .int .i64 ((p.2 : Nat) : Int)]]
theorem runsOf_at {l : List Nat} {j x : Nat} (h : l[j]? = some x) : runsOf (l.drop j) = (x, lead x 127 (l.drop (j + 1)) + 1) :: runsOf (l.drop (j + (lead x 127 (l.drop (j + 1)) + 1))) := by
 have hlt : j < l.length := (List.getElem?_eq_some_iff.1 h).1
 rw [List.drop_eq_getElem_cons hlt]
 have e : l[j] = x := by rw [List.getElem?_eq_getElem hlt] at h; simpa using h
 rw [e, runsOf_cons, List.drop_drop]
 congr 3
 omega
theorem runs_seq (Bx : Nat) (v : Value) (l : List Nat) (w : World) (hl : l.length ≤ 140737488351232) (hc : w.cell? ⟨Bx, 0, none⟩ = some v) (h : Holds w v (u64s l)) :
 SeqR Tryz.prog 155 #[.pointer (some ⟨Bx, 0, none⟩)] encR (fun k => k = Bx ∨ ownH v l k) (fun _ => False) (fun xs => xs = runsOf l) (fun pre => pre <+: runsOf l) w := by
 intro L J Jx W hW hJ hJx hY h0
 have hc1 : W.cell? ⟨Bx, 0, none⟩ = some v := hW.cell hc (fun h => h (.inl rfl))
 have h1 : Holds W v (u64s l) := h.keepsH hW u64s_nil (fun g hg hn => hn (.inr hg))
 have HH := Hj h1
 obtain ⟨ad, cap, rfl, hcap, hcells⟩ := h1
 clear hcells h hc hW
 rw [qbz] at hcap hc1 HH hY
 refine callsIn_of_wp Tryz.func155 rfl trivial ?_ rfl
 simp only [Tryz.ntmps155, List.size_toArray, List.length_cons, List.length_nil, Nat.reduceAdd, Nat.reduceSub, Array.replicate_succ, Array.replicate_zero, List.push_toArray, List.append_toArray, List.nil_append, List.cons_append]
 have HY := Hj hY
 have HJ := Hj hJ
 have HJx := Hj hJx
 clear hY hJ hJx
 gi_wp2
 gi_loopw [3] (fun t3 wr => ∃ (j : Nat) (pre : List (Nat × Nat)), j ≤ l.length ∧ t3 = .int .i64 j ∧ pre ++ runsOf (l.drop j) = runsOf l ∧ wr.cell? ⟨Bx, 0, none⟩ = some (.slice ad l.length cap) ∧ Holds wr (.slice ad l.length cap) (u64s l) ∧ J pre wr)
  (fun t3 wr => l.length - (intOf t3).toNat)
 case atStart => exact ⟨0, [], by omega, rfl, by simp, hc1, HH.out, h0⟩
 case round =>
  obtain ⟨j, pre, hj, rfl, hx, hcb, hh, hJp⟩ := hrel
  clear hc1 h0
  by_cases hlt : j < l.length
  · obtain ⟨x, hxj⟩ : ∃ x, l[j]? = some x := ⟨l[j], by simp [hlt]⟩
    obtain ⟨b, off, rfl, hcx⟩ := drop_cell hh hxj
    rw [runsOf_at hxj] at hx
    obtain ⟨n, hn⟩ : ∃ n, n = lead x 127 (l.drop (j + 1)) + 1 := ⟨_, rfl⟩
    rw [← hn] at hx
    have hnl : n ≤ 128 ∧ j + n ≤ l.length := by
     have := lead_le x 127 (l.drop (j + 1))
     rw [List.length_drop] at this
     omega
    have HN := Hj hn; have HX := Hj hx; have HJp := Hj hJp; have Hh := Hj hh; have Hxj := Hj hxj
    have hlt' : (j : Int) < l.length := by omega
    clear hn hx hJp hh hxj HH
    gi_wp2
    gi_loopw [4] (fun t4 wq => ∃ c : Nat, 1 ≤ c ∧ c ≤ n ∧ t4 = .int .i64 ((j + c : Nat) : Int) ∧ ∃ q, wq = wr.drewN q) (fun t4 wq => l.length - (intOf t4).toNat)
    case atStart => exact ⟨1, by omega, by have := HN.out; omega, by go_num, 0, rfl⟩
    case round =>
     obtain ⟨c, hc1, hcn, rfl, q, rfl⟩ := hrel
     obtain ⟨T, hT⟩ : ∃ T, T = j + c := ⟨_, rfl⟩
     rw [← hT]
     obtain ⟨wq, hwq⟩ : ∃ wq, wq = wr.drewN q := ⟨_, rfl⟩
     have hcq : wq.cell? ⟨Bx, 0, none⟩ = some (.slice (some ⟨b, off, none⟩) l.length cap) := by rw [hwq]; exact hcb
     have hcxq : wq.cell? ⟨b, off + j, none⟩ = some (.int .u64 (x : Nat)) := by rw [hwq]; exact hcx
     rw [← hwq]
     have HWQ := Hj hwq; have HT := Hj hT
     have hTb : T ≤ l.length := by omega
     have hTj : (T : Int) - j = c := by omega
     have hwT : IntKind.i64.wrap ((T : Int) - j) = c := by rw [IntWalk.i64_in _ (by omega)]; omega
     have hwc : IntKind.i64.wrap (c : Int) = c := qbk _ (by omega)
     clear hwq hT
     by_cases hmore : c < n
     · have hle := lead_le x 127 (l.drop (j + 1))
       have hTl : (T : Int) < l.length := by have := HN.out; have := HT.out; omega
       have hc128 : (c : Int) < 128 := by omega
       have hTx : l[T]? = some x := by
        have e1 := lead_take x 127 (l.drop (j + 1))
        have e2 : ((l.drop (j + 1)).take (lead x 127 (l.drop (j + 1))))[c - 1]? = some x := by
         rw [e1, List.getElem?_replicate, if_pos (by have := HN.out; omega)]
        rw [List.getElem?_take, if_pos (by have := HN.out; omega), List.getElem?_drop] at e2
        rw [← e2]
        congr 1
        have := HT.out; omega
       obtain ⟨b', off', hbo, hcT⟩ := drop_cell Hh.out hTx
       simp only [Option.some.injEq, Addr.mk.injEq] at hbo
       obtain ⟨rfl, rfl, _⟩ := hbo
       have hcTq : wq.cell? ⟨b, off + T, none⟩ = some (.int .u64 (x : Nat)) := by rw [HWQ.out]; exact hcT
       have d1 : decide (T < l.length) = true := by simpa using hTl
       have d2 : decide ((c : Int) < 128) = true := by simpa using hc128
       have hwT1 : IntKind.i64.wrap ((T : Int) + 1) = T + 1 := by rw [IntWalk.i64_in _ (by omega)]
       clear hTx hcT hcx hcb hle
       have HMORE := Hj hmore
       clear hmore
       gi_wp2
       gi_quiet (fail)
       gi_wp2
       refine ⟨⟨c + 1, by omega, by have := HMORE.out; omega, by rw [show j + (c + 1) = T + 1 by rw [HT.out]; omega]; go_num, q + nq, by rw [HWQ.out, World.drewN_drewN]⟩, by have := HT.out; simp [intOf]; omega⟩
     · have hcn' : c = n := by omega
       have hstop : (T < l.length ∧ c < 128 ∧ ∃ y, l[T]? = some y ∧ y ≠ x) ∨ (T < l.length ∧ ¬ c < 128) ∨ ¬ T < l.length := by
        by_cases h1 : T < l.length
        · by_cases h2 : c < 128
          · refine .inl ⟨h1, h2, l[T], List.getElem?_eq_getElem h1, fun he => ?_⟩
            have e1 := lead_stop x 127 (l.drop (j + 1)) l[T] (l.drop (T + 1)) (by
             rw [List.drop_drop, show j + 1 + lead x 127 (l.drop (j + 1)) = T by have := HN.out; have := HT.out; omega]
             exact List.drop_eq_getElem_cons h1) (by have := HN.out; omega)
            exact e1 he
          · exact .inr (.inl ⟨h1, h2⟩)
        · exact .inr (.inr h1)
       have hpx : pre ++ [(x, n)] <+: runsOf l := ⟨runsOf (l.drop (j + n)), by rw [← HX.out]; simp⟩
       have hJq : J pre wq := HJ.out _ _ _ HJp.out (by rw [HWQ.out]; exact (Keeps.refl _ _).drewN q)
       have HCN := Hj hcn'; have HPX := Hj hpx; have HJQ := Hj hJq
       clear hcn' hpx hJq hmore
       rcases hstop with ⟨h1, h2, y, hy, hyx⟩ | ⟨h1, h2⟩ | h1
       · obtain ⟨b', off', hbo, hcT⟩ := drop_cell Hh.out hy
         simp only [Option.some.injEq, Addr.mk.injEq] at hbo
         obtain ⟨rfl, rfl, _⟩ := hbo
         have hcTq : wq.cell? ⟨b, off + T, none⟩ = some (.int .u64 (y : Nat)) := by rw [HWQ.out]; exact hcT
         have hTl : (T : Int) < l.length := by omega
         have hc128 : (c : Int) < 128 := by omega
         have d1 : decide (T < l.length) = true := by simpa using hTl
         have d2 : decide ((c : Int) < 128) = true := by simpa using hc128
         have d3 : ((y : Int) == (x : Int)) = false := by simp; omega
         clear hy hyx hcT hcx hcb h1 h2
         gi_wp2
         gi_quiet (fail)
         obtain ⟨w2, hw2⟩ : ∃ w2, w2 = wq.drewN nq := ⟨_, rfl⟩
         rw [← hw2]
         have hc2 : w2.cell? ⟨Bx, 0, none⟩ = some (.slice (some ⟨b, off, none⟩) l.length cap) := by rw [hw2]; exact hcq
         have hcx2 : w2.cell? ⟨b, off + j, none⟩ = some (.int .u64 (x : Nat)) := by rw [hw2]; exact hcxq
         have hh2 : Holds w2 (.slice (some ⟨b, off, none⟩) l.length cap) (u64s l) := Hh.out.keeps (S := fun _ => False) (by rw [hw2, HWQ.out]; exact ((Keeps.refl _ _).drewN q).drewN nq) (fun _ _ h => h)
         obtain ⟨fn, tmps, assign, body, hyy, hR⟩ := HY.out pre (x, n) w2 (HJ.out _ _ _ HJQ.out (by rw [hw2]; exact (Keeps.refl _ _).drewN nq)) HPX.out
         simp only [encR] at hyy
         rw [← HCN.out] at hyy
         have HH2 := Hj hh2
         clear hw2 hcq hcxq hh2
         gi_wp2
         refine ⟨rfl, hR.mono ?_⟩
         rintro e W3 (⟨rfl, hJ3, hk3⟩ | ⟨rfl, hJx3, hk3⟩)
         · have hc3 := hk3.cell hc2 (fun h => h (.inl rfl))
           have hh3 := HH2.out.keepsH hk3 u64s_nil (fun g hg hs => hs (.inr hg))
           have HJ3 := Hj hJ3; have HH3 := Hj hh3
           clear hJ3 hk3 hh3 hc2 hcx2
           gi_wp2
           refine ⟨⟨T, pre ++ [(x, n)], hTb, rfl, ?_, hc3, HH3.out, HJ3.out⟩, by have := HT.out; simp [intOf]; omega⟩
           rw [HT.out, HCN.out, ← HX.out]; simp
         · have HJx3 := Hj hJx3
           clear hJx3 hk3 hc2 hcx2
           gi_wp2
           refine bodyPost_ret (results_none rfl _ _ _) rfl ?_
           exact ⟨⟨_, rfl⟩, .inr ⟨_, HPX.out, HJx3.out⟩⟩
       · have hTl : (T : Int) < l.length := by omega
         have hc128 : ¬ (c : Int) < 128 := by omega
         have d1 : decide (T < l.length) = true := by simpa using hTl
         have d2 : decide ((c : Int) < 128) = false := by simpa using hc128
         clear hcx hcb h1 h2
         gi_wp2
         gi_quiet (fail)
         obtain ⟨w2, hw2⟩ : ∃ w2, w2 = wq.drewN nq := ⟨_, rfl⟩
         rw [← hw2]
         have hc2 : w2.cell? ⟨Bx, 0, none⟩ = some (.slice (some ⟨b, off, none⟩) l.length cap) := by rw [hw2]; exact hcq
         have hcx2 : w2.cell? ⟨b, off + j, none⟩ = some (.int .u64 (x : Nat)) := by rw [hw2]; exact hcxq
         have hh2 : Holds w2 (.slice (some ⟨b, off, none⟩) l.length cap) (u64s l) := Hh.out.keeps (S := fun _ => False) (by rw [hw2, HWQ.out]; exact ((Keeps.refl _ _).drewN q).drewN nq) (fun _ _ h => h)
         obtain ⟨fn, tmps, assign, body, hyy, hR⟩ := HY.out pre (x, n) w2 (HJ.out _ _ _ HJQ.out (by rw [hw2]; exact (Keeps.refl _ _).drewN nq)) HPX.out
         simp only [encR] at hyy
         rw [← HCN.out] at hyy
         have HH2 := Hj hh2
         clear hw2 hcq hcxq hh2
         gi_wp2
         refine ⟨rfl, hR.mono ?_⟩
         rintro e W3 (⟨rfl, hJ3, hk3⟩ | ⟨rfl, hJx3, hk3⟩)
         · have hc3 := hk3.cell hc2 (fun h => h (.inl rfl))
           have hh3 := HH2.out.keepsH hk3 u64s_nil (fun g hg hs => hs (.inr hg))
           have HJ3 := Hj hJ3; have HH3 := Hj hh3
           clear hJ3 hk3 hh3 hc2 hcx2
           gi_wp2
           refine ⟨⟨T, pre ++ [(x, n)], hTb, rfl, ?_, hc3, HH3.out, HJ3.out⟩, by have := HT.out; simp [intOf]; omega⟩
           rw [HT.out, HCN.out, ← HX.out]; simp
         · have HJx3 := Hj hJx3
           clear hJx3 hk3 hc2 hcx2
           gi_wp2
           refine bodyPost_ret (results_none rfl _ _ _) rfl ?_
           exact ⟨⟨_, rfl⟩, .inr ⟨_, HPX.out, HJx3.out⟩⟩
       · have hTl : ¬ (T : Int) < l.length := by omega
         have d1 : decide (T < l.length) = false := by simpa using hTl
         clear hcx hcb h1
         gi_wp2
         gi_quiet (fail)
         obtain ⟨w2, hw2⟩ : ∃ w2, w2 = wq.drewN nq := ⟨_, rfl⟩
         rw [← hw2]
         have hc2 : w2.cell? ⟨Bx, 0, none⟩ = some (.slice (some ⟨b, off, none⟩) l.length cap) := by rw [hw2]; exact hcq
         have hcx2 : w2.cell? ⟨b, off + j, none⟩ = some (.int .u64 (x : Nat)) := by rw [hw2]; exact hcxq
         have hh2 : Holds w2 (.slice (some ⟨b, off, none⟩) l.length cap) (u64s l) := Hh.out.keeps (S := fun _ => False) (by rw [hw2, HWQ.out]; exact ((Keeps.refl _ _).drewN q).drewN nq) (fun _ _ h => h)
         obtain ⟨fn, tmps, assign, body, hyy, hR⟩ := HY.out pre (x, n) w2 (HJ.out _ _ _ HJQ.out (by rw [hw2]; exact (Keeps.refl _ _).drewN nq)) HPX.out
         simp only [encR] at hyy
         rw [← HCN.out] at hyy
         have HH2 := Hj hh2
         clear hw2 hcq hcxq hh2
         gi_wp2
         refine ⟨rfl, hR.mono ?_⟩
         rintro e W3 (⟨rfl, hJ3, hk3⟩ | ⟨rfl, hJx3, hk3⟩)
         · have hc3 := hk3.cell hc2 (fun h => h (.inl rfl))
           have hh3 := HH2.out.keepsH hk3 u64s_nil (fun g hg hs => hs (.inr hg))
           have HJ3 := Hj hJ3; have HH3 := Hj hh3
           clear hJ3 hk3 hh3 hc2 hcx2
           gi_wp2
           refine ⟨⟨T, pre ++ [(x, n)], hTb, rfl, ?_, hc3, HH3.out, HJ3.out⟩, by have := HT.out; simp [intOf]; omega⟩
           rw [HT.out, HCN.out, ← HX.out]; simp
         · have HJx3 := Hj hJx3
           clear hJx3 hk3 hc2 hcx2
           gi_wp2
           refine bodyPost_ret (results_none rfl _ _ _) rfl ?_
           exact ⟨⟨_, rfl⟩, .inr ⟨_, HPX.out, HJx3.out⟩⟩
  · have e : j = l.length := by omega
    subst e
    rw [List.drop_length, runsOf_nil, List.append_nil] at hx
    subst hx
    gi_wp2
    go_end0
    exact ⟨⟨_, rfl⟩, .inl ⟨_, rfl, hJp⟩⟩
theorem runs_any (ad : Option Addr) (len cap : Nat) (w : World) : Calls Tryz.prog 102 #[.slice ad len cap] w fun e w' => e = .returned (.func (.func 155) #[] #[.pointer (some ⟨w.heap.size, 0, none⟩)]) ∧ w' = w.alloc (.cells #[.slice ad len cap] 55) := by
 have hmf : ∀ (fn : Fn) (first cap : Array Value) (w : World), (Instr.makeFunc fn first cap).run Tryz.prog w = .ok (.func fn first cap) w := fun _ _ _ _ => rfl
 go_enter Tryz.func102, Tryz.ntmps102
 go_wp2
 go_ret
 exact ⟨rfl, rfl⟩
end
section
open Go.RowKit Go.Shelf
attribute [local go_sem] Oper.semAt_some
end
section
open Go.RowKit Go.Shelf
attribute [local go_sem] Oper.semAt_some
theorem infoRun : (Tryz.prog.info? 197).map (fun i => (i.zero, i.size, i.bytes)) = some (some (.agg #[.int .u64 0, .int .i64 0]), 2, 16) := by kernel_rfl
def qcp (rs : List (Nat × Nat)) : List Value := rs.flatMap fun p => [.int .u64 ((p.1 : Nat) : Int), .int .i64 ((p.2 : Nat) : Int)]
theorem runCells_snoc (rs : List (Nat × Nat)) (p : Nat × Nat) : qcp (rs ++ [p]) = qcp rs ++ [.int .u64 ((p.1 : Nat) : Int), .int .i64 ((p.2 : Nat) : Int)] := by simp [qcp]
theorem runs_here (ad : Option Addr) (cap : Nat) (l : List Nat) (w : World) (hl : l.length ≤ 140737488351232) (h : Holds w (.slice ad l.length cap) (u64s l)) :
 SeqR Tryz.prog 155 #[.pointer (some ⟨w.heap.size, 0, none⟩)] encR (fun k => k = w.heap.size ∨ ownH (.slice ad l.length cap) l k) (fun _ => False) (fun xs => xs = runsOf l) (fun pre => pre <+: runsOf l) (w.alloc (.cells #[.slice ad l.length cap] 55)) :=
 runs_seq w.heap.size _ l _ hl (by rw [cell_of_row _ _ _ _ _ _ (heap_alloc_new w _)]; rfl) (h.keeps ((Keeps.refl (fun _ => False) w).alloc _) (fun _ _ h => h))
end
section
open Go.RowKit
end
section
set_option maxRecDepth 100000
open Go.RowKit
attribute [local go_sem ↓] Go.wp_at_zero Go.wp_at_succ
theorem parts_any (w : World) : Calls Tryz.prog 166 #[] w fun e w' => e = .returned (.agg #[.func (.func 202) #[] #[], .func (.func 203) #[] #[]]) ∧ Below w.heap.size w w' := by
 go_enter Tryz.func166, Tryz.ntmps166
 go_wp2
 have hr : (w.alloc (.cells #[.func (.func 202) #[] #[], .func (.func 203) #[] #[]] 286)).heap[w.heap.size]? = some (.cells #[.func (.func 202) #[] #[], .func (.func 203) #[] #[]] 286 (0, 0)) := heap_alloc_new w _
 have e0 : (w.alloc (.cells #[.func (.func 202) #[] #[], .func (.func 203) #[] #[]] 286)).cell? ⟨w.heap.size, 0, none⟩ = some (.func (.func 202) #[] #[]) := by rw [cell_of_row _ _ _ _ _ _ hr]; rfl
 have e1 : (w.alloc (.cells #[.func (.func 202) #[] #[], .func (.func 203) #[] #[]] 286)).cell? ⟨w.heap.size, 1, none⟩ = some (.func (.func 203) #[] #[]) := by rw [cell_of_row _ _ _ _ _ _ hr]; rfl
 refine bodyPost_ret (v := .agg #[.func (.func 202) #[] #[], .func (.func 203) #[] #[]]) (by simp [results, Tryz.results166, go_sem, e0, e1]) rfl ⟨rfl, ?_⟩
 exact (Below.refl _ w).alloc (Nat.le_refl _) _
theorem ix0 (a b : Value) (w : World) : (Instr.index 286 (.agg #[a, b]) (.int .i64 0)).run Tryz.prog w = .ok (.agg #[a]) w := by
 simp [Instr.index, run_underlying Tryz.underlying286, asIntOf, part, go_sem]
theorem ix1 (a b : Value) (w : World) : (Instr.index 286 (.agg #[a, b]) (.int .i64 1)).run Tryz.prog w = .ok (.agg #[b]) w := by
 simp [Instr.index, run_underlying Tryz.underlying286, asIntOf, part, go_sem]
theorem fd0 (F : Nat) (w : World) : (Instr.field 285 (.agg #[.func (.func F) #[] #[]]) 0).run Tryz.prog w = .ok (.func (.func F) #[] #[]) w := by
 simp [Instr.field, run_underlying Tryz.underlying285, part, asAgg, go_sem]
theorem cell_new1 (w : World) (u : Value) (t : TypeId) : (w.alloc (.cells #[u] t)).cell? ⟨w.heap.size, 0, none⟩ = some u := by rw [cell_of_row _ _ _ _ _ _ (heap_alloc_new w _)]; rfl
theorem by_any (F : Nat) (w : World) : Calls Tryz.prog 195 #[.func (.func F) #[] #[]] w fun e w' => ∃ B, e = .returned (.func (.func 225) #[] #[.pointer (some ⟨B, 0, none⟩)]) ∧ w'.cell? ⟨B, 0, none⟩ = some (.func (.func F) #[] #[]) ∧ Below w.heap.size w w' := by
 go_enter Tryz.func195, Tryz.ntmps195
 go_wp2
 go_ret
 exact ⟨_, rfl, cell_new1 _ _ _, (Below.refl _ _).alloc (Nat.le_refl _) _⟩
theorem qbd {w w' : World} (h : Below w.drew.heap.size w.drew w') : Below w.heap.size w w' := ⟨h.os, h.tape, h.output, h.size, h.block⟩
def cmpE (x y : Lab) : Int := if ordS x.1 y.1 ≠ 0 then ordS x.1 y.1 else ordS x.2 y.2
theorem cmp1_any (x y : Lab) (w : World) : Calls Tryz.prog 199 #[.agg #[.string x.1, .string x.2], .agg #[.string y.1, .string y.2]] w fun e w' => e = .returned (.int .i64 (cmpE x y)) ∧ Below w.heap.size w w' := by
 obtain ⟨x1, x2⟩ := x
 obtain ⟨y1, y2⟩ := y
 obtain ⟨W0, hW0, hb, hs, c1, c2, c3, c4⟩ := two_labels w x1 x2 y1 y2
 have HB := Hj hb
 have HP := Hj (parts_any W0)
 clear hb
 go_enter Tryz.func199, Tryz.ntmps199
 go_wp2_with fail
 rw [← hW0]
 refine HP.out.mono ?_
 rintro e w1 ⟨rfl, hb1⟩
 have HB1 := Hj hb1
 have CC : Hid (∀ wq, Below W0.heap.size W0 wq → wq.cell? ⟨w.heap.size, 0, none⟩ = some (.string x1) ∧ wq.cell? ⟨w.heap.size, 1, none⟩ = some (.string x2) ∧ wq.cell? ⟨w.heap.size + 1, 0, none⟩ = some (.string y1) ∧ wq.cell? ⟨w.heap.size + 1, 1, none⟩ = some (.string y2)) := Hj (fun wq h => by
  refine ⟨?_, ?_, ?_, ?_⟩
  · rw [h.cell (World.block_lt_of_cell? W0 _ c1)]; exact c1
  · rw [h.cell (World.block_lt_of_cell? W0 _ c2)]; exact c2
  · rw [h.cell (World.block_lt_of_cell? W0 _ c3)]; exact c3
  · rw [h.cell (World.block_lt_of_cell? W0 _ c4)]; exact c4)
 have HE : Hid (cmpE (x1, x2) (y1, y2) = if ordS x1 y1 ≠ 0 then ordS x1 y1 else ordS x2 y2) := Hj rfl
 clear hb1 c1 c2 c3 c4 hW0 HP
 have HS := Hj hs
 clear hs
 have hx0 := fun w => ix0 (.func (.func 202) #[] #[]) (.func (.func 203) #[] #[]) w
 have hx1 := fun w => ix1 (.func (.func 202) #[] #[]) (.func (.func 203) #[] #[]) w
 go_wp2
 go_loopw [9] (fun i wr => ∃ k : Nat, (k = 0 ∨ k = 1 ∧ ordS x1 y1 = 0 ∨ k = 2 ∧ ordS x1 y1 = 0 ∧ ordS x2 y2 = 0) ∧ i = .int .i64 (k : Nat) ∧ Below W0.heap.size W0 wr) (fun i _ => 2 - (intOf i).toNat)
 case atStart => exact ⟨0, .inl rfl, rfl, HB1.out⟩
 case round =>
  obtain ⟨k, hk, rfl, hbr⟩ := hrel
  have hcells := CC.out _ hbr
  obtain ⟨d1, d2, d3, d4⟩ := hcells
  rcases hk with rfl | ⟨rfl, h1⟩ | ⟨rfl, h1, h2⟩
  · go_wp2_with fail
    obtain ⟨W1, hW1⟩ : ∃ W1, W1 = wr.alloc (.cells #[.func (.func 202) #[] #[]] 285) := ⟨_, rfl⟩
    have k0 : W1.cell? ⟨wr.heap.size, 0, none⟩ = some (.func (.func 202) #[] #[]) := by rw [hW1]; exact cell_new1 _ _ _
    have hb1 : Below wr.heap.size wr W1 := by rw [hW1]; exact (Below.refl _ _).alloc (Nat.le_refl _) _
    have hbr1 := hbr.trans (hb1.mono hbr.size)
    rw [← hW1]
    obtain ⟨d1, d2, d3, d4⟩ := CC.out _ hbr1
    have HSX : Hid (∀ x, Below W1.heap.size W1 x → x.cell? ⟨wr.heap.size, 0, none⟩ = some (.func (.func 202) #[] #[]) ∧ x.cell? ⟨w.heap.size, 0, none⟩ = some (.string x1) ∧ x.cell? ⟨w.heap.size, 1, none⟩ = some (.string x2) ∧ x.cell? ⟨w.heap.size + 1, 0, none⟩ = some (.string y1) ∧ x.cell? ⟨w.heap.size + 1, 1, none⟩ = some (.string y2)) := Hj (fun x hx => by
     refine ⟨?_, CC.out _ (hbr1.trans (hx.mono hbr1.size))⟩
     rw [hx.cell (World.block_lt_of_cell? W1 _ k0)]; exact k0)
    have HBR1 := Hj hbr1
    clear hW1 hb1 hbr1
    go_region_held3 (fun x => x.cell? ⟨wr.heap.size, 0, none⟩ = some (.func (.func 202) #[] #[]) ∧ x.cell? ⟨w.heap.size, 0, none⟩ = some (.string x1) ∧ x.cell? ⟨w.heap.size, 1, none⟩ = some (.string x2) ∧ x.cell? ⟨w.heap.size + 1, 0, none⟩ = some (.string y1) ∧ x.cell? ⟨w.heap.size + 1, 1, none⟩ = some (.string y2)) (first | exact HSX.out _ (Below.refl _ _) | exact HSX.out _ (Below.refl _ _).drew | exact HSX.out _ (qbd hb2) | exact HSX.out _ ((qbd hb2).trans (hb3.mono (qbd hb2).size))) (first
     | (go_at_call 195; go_must (refine (by_any 202 W1.drew).mono ?_; rintro e w2 ⟨B, rfl, hcB, hb2⟩))
     | (go_at_call 225; go_must (refine (by1_1 (x1, x2) (y1, y2) B _ hcB).mono ?_; rintro e w3 ⟨rfl, hb3⟩)))
    have hbw : Below W0.heap.size W0 w3 := HBR1.out.trans (((qbd hb2).trans (hb3.mono (qbd hb2).size)).mono HBR1.out.size)
    have HBW := Hj hbw
    have hend := HS.out
    clear hcB hb2 hb3 hbw HSX HBR1 k0 d1 d2 d3 d4
    by_cases hz : ordS x1 y1 = 0
    · rw [hz]
      go_wp2
      exact ⟨⟨1, .inr (.inl ⟨rfl, hz⟩), rfl, HBW.out⟩, by simp [intOf]⟩
    · obtain ⟨D, hD⟩ : ∃ D, D = ordS x1 y1 := ⟨_, rfl⟩
      have H := Hj (HE.out.trans (if_pos hz))
      rw [← hD] at hz H ⊢
      have hn : (D != 0) = true := by simpa using hz
      clear hz hD HE
      go_wp2
      go_ret
      exact ⟨qan H.out.symm, HB.out.trans (HBW.out.mono (by omega))⟩
  · go_wp2_with fail
    obtain ⟨W1, hW1⟩ : ∃ W1, W1 = wr.alloc (.cells #[.func (.func 203) #[] #[]] 285) := ⟨_, rfl⟩
    have k0 : W1.cell? ⟨wr.heap.size, 0, none⟩ = some (.func (.func 203) #[] #[]) := by rw [hW1]; exact cell_new1 _ _ _
    have hb1 : Below wr.heap.size wr W1 := by rw [hW1]; exact (Below.refl _ _).alloc (Nat.le_refl _) _
    have hbr1 := hbr.trans (hb1.mono hbr.size)
    rw [← hW1]
    obtain ⟨d1, d2, d3, d4⟩ := CC.out _ hbr1
    have HSX : Hid (∀ x, Below W1.heap.size W1 x → x.cell? ⟨wr.heap.size, 0, none⟩ = some (.func (.func 203) #[] #[]) ∧ x.cell? ⟨w.heap.size, 0, none⟩ = some (.string x1) ∧ x.cell? ⟨w.heap.size, 1, none⟩ = some (.string x2) ∧ x.cell? ⟨w.heap.size + 1, 0, none⟩ = some (.string y1) ∧ x.cell? ⟨w.heap.size + 1, 1, none⟩ = some (.string y2)) := Hj (fun x hx => by
     refine ⟨?_, CC.out _ (hbr1.trans (hx.mono hbr1.size))⟩
     rw [hx.cell (World.block_lt_of_cell? W1 _ k0)]; exact k0)
    have HBR1 := Hj hbr1
    clear hW1 hb1 hbr1
    go_region_held3 (fun x => x.cell? ⟨wr.heap.size, 0, none⟩ = some (.func (.func 203) #[] #[]) ∧ x.cell? ⟨w.heap.size, 0, none⟩ = some (.string x1) ∧ x.cell? ⟨w.heap.size, 1, none⟩ = some (.string x2) ∧ x.cell? ⟨w.heap.size + 1, 0, none⟩ = some (.string y1) ∧ x.cell? ⟨w.heap.size + 1, 1, none⟩ = some (.string y2)) (first | exact HSX.out _ (Below.refl _ _) | exact HSX.out _ (Below.refl _ _).drew | exact HSX.out _ (qbd hb2) | exact HSX.out _ ((qbd hb2).trans (hb3.mono (qbd hb2).size))) (first
     | (go_at_call 195; go_must (refine (by_any 203 W1.drew).mono ?_; rintro e w2 ⟨B, rfl, hcB, hb2⟩))
     | (go_at_call 225; go_must (refine (by1_2 (x1, x2) (y1, y2) B _ hcB).mono ?_; rintro e w3 ⟨rfl, hb3⟩)))
    have hbw : Below W0.heap.size W0 w3 := HBR1.out.trans (((qbd hb2).trans (hb3.mono (qbd hb2).size)).mono HBR1.out.size)
    have HBW := Hj hbw
    have hend := HS.out
    clear hcB hb2 hb3 hbw HSX HBR1 k0 d1 d2 d3 d4
    by_cases hz : ordS x2 y2 = 0
    · rw [hz]
      go_wp2
      exact ⟨⟨2, .inr (.inr ⟨rfl, h1, hz⟩), rfl, HBW.out⟩, by simp [intOf]⟩
    · obtain ⟨D, hD⟩ : ∃ D, D = ordS x2 y2 := ⟨_, rfl⟩
      have H := Hj (HE.out.trans (if_neg (by simpa using h1)))
      rw [← hD] at hz H ⊢
      have hn : (D != 0) = true := by simpa using hz
      clear hz hD HE
      go_wp2
      go_ret
      exact ⟨qan H.out.symm, HB.out.trans (HBW.out.mono (by omega))⟩
  · have H := Hj (HE.out.trans (by rw [if_neg (by simpa using h1), h2]))
    have hend := HS.out
    clear HE d1 d2 d3 d4
    go_wp2
    go_ret
    exact ⟨qan H.out.symm, HB.out.trans (hbr.mono (by omega))⟩
end
end Go.Proofs.YtfpcgcbehdogjaaGreatDoor
