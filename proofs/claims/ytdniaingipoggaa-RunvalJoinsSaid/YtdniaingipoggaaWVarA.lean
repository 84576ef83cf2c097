/-
  WALKS: varint.groups (an iterator that keeps its number in a cell) and varint.Append.
-/
import Derived.Test.YtdniaingipoggaaPVar
import Derived.Test.YtdniaingipoggaaPRange
import Derived.Test.YtdniaingipoggaaWReader
import Derived.RangeFuncNested
import Derived.RangeFuncBound
import Derived.RangeFuncCalls
import Derived.RangeFuncLeaves
import Derived.Shelf.Abstract
import Derived.Shelf.RegionOpen
import Derived.WalkKit
import Derived.OwnWalkIn
import Derived.TacticsInMore
import Derived.LoopNIn
import Derived.LoopIn
import Derived.Lib.Hide
namespace Go.Proofs.Ytdniaingipoggaa
open Go.RowKit Go.Shelf
attribute [local go_sem] Oper.semAt_some

def encG (p : Nat × Bool) : Array Value := #[.int .u8 ((p.1 : Nat) : Int), .bool p.2]

/-- the number in a cell: the loop's measure -/
def leftOf (w : World) (b : Nat) : Nat := match w.cell? ⟨b, 0, none⟩ with | some (.int _ y) => y.toNat | _ => 0
theorem leftOf_eq {w : World} {b y : Nat} {k : IntKind} (h : w.cell? ⟨b, 0, none⟩ = some (.int k (y : Nat))) : leftOf w b = y := by simp [leftOf, h]
theorem groupsF_small (n y : Nat) (h : y < 128) : groupsF n y = [(y, true)] := by cases n <;> simp [groupsF, h]
theorem groupsF_big (n y : Nat) (h : 128 ≤ y) (hn : y < 128 ^ (n + 1)) : ∃ m, n = m + 1 ∧ groupsF n y = (y % 128, false) :: groupsF m (y / 128) ∧ y / 128 < 128 ^ (m + 1) := by
  cases n with
  | zero => omega
  | succ m => exact ⟨m, rfl, by simp only [groupsF]; rw [if_neg (by omega)], Nat.div_lt_of_lt_mul (by rw [Nat.pow_succ] at hn; omega)⟩
theorem frozen_kept2 {S : Nat → Prop} {a b : World} (h : Keeps S a b) {p : Addr} {v : Value} (hc : a.cell? p = some v) (hS : ¬ S p.block) : b.frozen? p = a.frozen? p :=
  World.frozen?_of_block (h.block p.block (World.block_lt_of_cell? a p hc) hS)

set_option maxRecDepth 100000 in
set_option maxHeartbeats 1000000 in
theorem groups_seq (Bn X : Nat) (w : World) (hX : X ≤ 18446744073709551615) (hc : w.cell? ⟨Bn, 0, none⟩ = some (.int .u64 (X : Nat))) (hf : w.frozen? ⟨Bn, 0, none⟩ = false) :
    SeqC Try.prog 71 #[.pointer (some ⟨Bn, 0, none⟩)] encG (fun k => k = Bn) (fun xs => xs = groupsF 9 X) (fun pre => pre <+: groupsF 9 X) w := by
  intro l J Jx W hW hJ hJx hY h0
  have hc1 : W.cell? ⟨Bn, 0, none⟩ = some (.int .u64 (X : Nat)) := hW.cell hc (fun h => h rfl)
  have hf1 : W.frozen? ⟨Bn, 0, none⟩ = false := (frozen_kept2 hW hc (fun h => h rfl)).trans hf
  clear hc hf hW
  refine callsIn_of_wp Try.func71 rfl trivial ?_ rfl
  simp only [Try.ntmps71, List.size_toArray, List.length_cons, List.length_nil, Nat.reduceAdd, Nat.reduceSub, Array.replicate_succ, Array.replicate_zero, List.push_toArray, List.append_toArray, List.nil_append, List.cons_append]
  have HY := Lib.hid hY
  have HJ := Lib.hid hJ
  have HJx := Lib.hid hJx
  clear hY hJ hJx
  gi_wp2
  gi_loopw [] (fun wr => ∃ (n y : Nat) (pre : List (Nat × Bool)), y < 128 ^ (n + 1) ∧ pre ++ groupsF n y = groupsF 9 X ∧ wr.cell? ⟨Bn, 0, none⟩ = some (.int .u64 (y : Nat)) ∧ wr.frozen? ⟨Bn, 0, none⟩ = false ∧ J pre wr)
    (fun wr => leftOf wr Bn)
  case atStart => exact ⟨9, X, [], by omega, rfl, hc1, hf1, h0⟩
  case round =>
    obtain ⟨n, y, pre, hy, hx, hcy, hfy, hJp⟩ := hrel
    by_cases hlt : 128 ≤ y
    · obtain ⟨m, rfl, hg, hym⟩ := groupsF_big n y hlt hy
      rw [hg] at hx
      have hpx : pre ++ [(y % 128, false)] <+: groupsF 9 X := ⟨groupsF m (y / 128), by rw [← hx]; simp⟩
      obtain ⟨fn, tmps, assign, body, hyy, hR⟩ := HY.out pre (y % 128, false) wr hJp hpx
      simp only [encG] at hyy
      have Hx := Lib.hid hx; have Hpx := Lib.hid hpx; have Hy := Lib.hid hym; have HJp := Lib.hid hJp
      obtain ⟨r, hr⟩ : ∃ r, r = y % 128 := ⟨_, rfl⟩
      rw [← hr] at hyy
      have hr1 : (y : Int) % 128 = r := by omega
      have hr2 : (y : Int).tmod 128 = r := by rw [Int.tmod_eq_emod_of_nonneg (by omega)]; omega
      have hr3 : IntKind.u8.wrap (r : Int) = r := IntWalk.u8_in _ (by omega)
      have Hr := Lib.hid hr
      have hyb : (128 : Int) ≤ y := by omega
      clear hx hpx hym hJp hg hy hr
      gi_wp2
      refine ⟨rfl, hR.mono ?_⟩
      rintro e W3 (⟨rfl, hJ3, hk3⟩ | ⟨rfl, hJx3, hk3⟩)
      · have hc3 : W3.cell? ⟨Bn, 0, none⟩ = some (.int .u64 (y : Nat)) := hk3.cell hcy (fun h => h rfl)
        have hf3 : W3.frozen? ⟨Bn, 0, none⟩ = false := (frozen_kept2 hk3 hcy (fun h => h rfl)).trans hfy
        have HJ3 := Lib.hid hJ3
        clear hJ3 hk3
        obtain ⟨z, hz⟩ : ∃ z, z = y / 128 := ⟨_, rfl⟩
        have hz1 : (y : Int) / 128 = z := by omega
        have Hz := Lib.hid hz
        clear hz
        gi_wp2
        have hk : Keeps (fun k => k = Bn) W3 (W3.setCell ⟨Bn, 0, none⟩ (.int .u64 (z : Nat))) := (Keeps.refl (fun k => k = Bn) W3).setCell (p := ⟨Bn, 0, none⟩) (fun _ => rfl) _
        have hcz : (W3.setCell ⟨Bn, 0, none⟩ (.int .u64 (z : Nat))).cell? ⟨Bn, 0, none⟩ = some (.int .u64 (z : Nat)) := World.cell?_setCell_same' _ _ _ (by rw [hc3]; rfl)
        refine ⟨⟨m, z, pre ++ [(y % 128, false)], by rw [Hz.out]; exact Hy.out, by rw [Hz.out, ← Hx.out]; simp, hcz, by rw [World.frozen?_setCell]; exact hf3, ?_⟩, ?_⟩
        · have := HJ3.out
          exact HJ.out _ _ _ this hk
        · rw [leftOf_eq hcz, leftOf_eq hcy, Hz.out]; omega
      · have HJx3 := Lib.hid hJx3
        have hc3 : W3.cell? ⟨Bn, 0, none⟩ = some (.int .u64 (y : Nat)) := hk3.cell hcy (fun h => h rfl)
        clear hJx3 hk3
        have hyn : ¬ (y : Int) < 128 := by omega
        gi_wp2
        go_end0
        exact ⟨⟨_, rfl⟩, .inr ⟨_, Hpx.out, HJx3.out⟩⟩
    · have hg := groupsF_small n y (by omega)
      rw [hg] at hx
      obtain ⟨fn, tmps, assign, body, hyy, hR⟩ := HY.out pre (y, true) wr hJp ⟨[], by rw [← hx]; simp⟩
      simp only [encG] at hyy
      have Hx := Lib.hid hx
      have hr3 : IntKind.u8.wrap (y : Int) = y := IntWalk.u8_in _ (by omega)
      have hyb : (y : Int) < 128 := by omega
      clear hx hJp hg hy
      gi_wp2
      refine ⟨fun _ h => (by cases h), ?_⟩
      gi_wp2
      refine ⟨rfl, hR.mono ?_⟩
      rintro e W3 (⟨rfl, hJ3, hk3⟩ | ⟨rfl, hJx3, hk3⟩)
      · have HJ3 := Lib.hid hJ3
        clear hJ3 hk3
        gi_wp2
        go_end0
        exact ⟨⟨_, rfl⟩, .inl ⟨_, Hx.out, HJ3.out⟩⟩
      · have HJ3 := Lib.hid hJx3
        clear hJx3 hk3
        gi_wp2
        go_end0
        exact ⟨⟨_, rfl⟩, .inr ⟨_, ⟨[], by rw [← Hx.out]; simp⟩, HJ3.out⟩⟩

set_option maxHeartbeats 400000 in
theorem groups_any (X : Nat) (w : World) : Calls Try.prog 63 #[.int .u64 X] w fun e w' => e = .returned (.func (.func 71) #[] #[.pointer (some ⟨w.heap.size, 0, none⟩)]) ∧ w' = w.alloc (.cells #[.int .u64 X] 35) := by
  have hmf : ∀ (fn : Fn) (first cap : Array Value) (w : World), (Instr.makeFunc fn first cap).run Try.prog w = .ok (.func fn first cap) w := fun _ _ _ _ => rfl
  go_enter Try.func63, Try.ntmps63
  go_wp2
  go_ret
  exact ⟨rfl, rfl⟩

set_option maxRecDepth 100000 in
set_option maxHeartbeats 1000000 in
theorem append_any (base : Nat) (v : Value) (l : List Nat) (X : Nat) (w : World) (h : w.ownsRow base 5 1 v (u8s l).length (u8s l)) (hX : X ≤ 18446744073709551615) (hl : l.length ≤ 1099511627776) (hb0 : base ≤ w.heap.size) :
    Calls Try.prog 43 #[v, .int .u64 X] w fun e w' => ∃ v', e = .returned v' ∧ RowTo 5 base v w v' (u8s (l ++ venc X)) w' := by
  obtain ⟨i0, hi, hz0, hz1, hz2⟩ := info_parts infoU8
  refine (callsIn_wide (n := 0)).1 ?_
  refine callsIn_of_wp_marks Try.func43 rfl trivial ?_ rfl
  simp only [Try.ntmps43, List.size_toArray, List.length_cons, List.length_nil, Nat.reduceAdd, Nat.reduceSub, Array.replicate_succ, Array.replicate_zero, List.push_toArray, List.append_toArray, List.nil_append, List.cons_append]
  obtain ⟨ad, cap, rfl⟩ := row_slice h
  gi_wp2
  refine ⟨trivial, rfl, (callsIn_wide.2 (groups_any X _)).mono ?_⟩
  rintro e w1 ⟨rfl, rfl⟩
  gi_wp2
  obtain ⟨W0, hW0⟩ : ∃ W0, W0 = (w.alloc (.cells #[.slice ad (u8s l).length cap] 31)).alloc (.cells #[.int .u64 (X : Nat)] 35) := ⟨_, rfl⟩
  have hsz : W0.heap.size = w.heap.size + 2 := by rw [hW0]; simp
  have hkW : ∀ S, Keeps S w W0 := fun S => by rw [hW0]; exact ((Keeps.refl S w).alloc _).alloc _
  have hbox : W0.heap[w.heap.size]? = some (.cells #[.slice ad (u8s l).length cap] 31 (0, 0)) := by
    rw [hW0]; exact (Below.heap_alloc _ _ _ (by simp)).trans (heap_alloc_new w _)
  have hx : W0.heap[w.heap.size + 1]? = some (.cells #[.int .u64 (X : Nat)] 35 (0, 0)) := by
    rw [hW0]; have := heap_alloc_new (w.alloc (.cells #[.slice ad (u8s l).length cap] 31)) (.cells #[.int .u64 (X : Nat)] 35); rwa [World.size_alloc] at this
  rw [← hW0]
  clear hW0
  refine wpIn_rangeFunc_c (gf := 71) (lb := #[.pointer (some ⟨w.heap.size + 1, 0, none⟩)]) rfl (enters_of Try.func71 (by kernel_rfl) rfl)
    (groups_seq (w.heap.size + 1) X W0 hX (by rw [cell_of_row _ _ _ _ _ _ hx]; rfl) (frozen_of_row _ _ _ _ _ hx)) (T := fun k => k = w.heap.size ∨ own (.slice ad (u8s l).length cap) k ∨ w.heap.size + 4 ≤ k) (fun x => rfl)
    (fun k hk => by omega) ?hT ?hT2
    (fun pre W => ∃ v', W.heap[w.heap.size]? = some (.cells #[v'] 31 (0, 0)) ∧ RowTo 5 base (.slice ad (u8s l).length cap) w v' (u8s (l ++ pre.map byteOf)) W ∧
      ∀ g, v'.ownBlock = some g → own (.slice ad (u8s l).length cap) g ∨ w.heap.size + 4 ≤ g)
    (fun _ _ _ => False) ?hI (fun _ _ _ _ h _ => h) ?h0
    (fun x => { tmps := #[.slice ad (u8s l).length cap, .int .u64 (X : Nat), .pointer (some ⟨w.heap.size, 0, none⟩), undef, .slice none 0 0, .int .u8 ((x.1 : Nat) : Int), .bool x.2, .int .u64 (X : Nat), .func (.func 71) #[] #[.pointer (some ⟨w.heap.size + 1, 0, none⟩)], .int .u8 ((x.1 : Nat) : Int), .bool x.2, undef, undef, undef, undef, undef, undef, undef, undef, undef], defers := [] }) ?assign ?body ?done ?stop
  case hT =>
    rintro k (rfl | hk | hk) e
    · omega
    · have := (h.lt k hk).2; omega
    · omega
  case hT2 =>
    rintro k (rfl | hk | hk)
    · omega
    · have := (h.lt k hk).2; omega
    · omega
  case hI =>
    rintro pre A B ⟨v', h1, h2, h3⟩ hk
    refine ⟨v', hk.heap h1 (by omega), ⟨hk.row h2.row (fun g hg hs => ?_), h2.keeps.trans hk (fun k hk hs => by omega), h2.new⟩, h3⟩
    rcases h3 g hg with h' | h'
    · have := (h.lt g h').2; omega
    · omega
  case h0 => exact ⟨_, hbox, ⟨by simpa using hkW (fun _ => False) |>.row h (fun _ _ h => h), hkW _, fun g hg => .inl hg⟩, fun g hg => .inl hg⟩
  case assign =>
    intro lp x W K hK
    simp only [encG]
    gi_wp2
    exact hK
  case body =>
    rintro lp pre ⟨c, b⟩ W ⟨v', h1, h2, h3⟩ hsp hsz2
    have hb1 : base ≤ W.heap.size := by omega
    have hc0 : W.cell? ⟨w.heap.size, 0, none⟩ = some v' := by rw [cell_of_row _ _ _ _ _ _ h1]; rfl
    have hf0 : W.frozen? ⟨w.heap.size, 0, none⟩ = false := frozen_of_row _ _ _ _ _ h1
    have hrow := h2.row
    have hlen : (u8s (l ++ pre.map byteOf)).length ≤ 1099511627800 := by
      have h5 := hsp.length_le
      have h6 := groupsF_length 9 X
      rw [u8s_length, List.length_append, List.length_map]
      simp at h5
      omega
    have hc128 : c < 128 := groupsF_lt 9 X (by omega) (c, b) (hsp.subset (by simp))
    have H1 := Lib.hid h1; have H2 := Lib.hid h2; have H3 := Lib.hid h3
    have fin : ∀ (d : Nat) (v2 : Value) (w2 : World), d = byteOf (c, b) → w2.ownsRow base 5 1 v2 ((u8s (l ++ pre.map byteOf)).length + 1) (u8s (l ++ pre.map byteOf) ++ [.int .u8 (d : Nat)]) →
        (W.alloc (.cells #[.int .u8 (d : Nat)] 5)).grownBy w2 v'.ownBlock → (∀ g, v2.ownBlock = some g → v'.ownBlock = some g ∨ (W.alloc (.cells #[.int .u8 (d : Nat)] 5)).heap.size ≤ g) →
        bodyC (fun k => k = w.heap.size ∨ own (.slice ad (u8s l).length cap) k ∨ w.heap.size + 4 ≤ k)
          (fun pre W => ∃ v', W.heap[w.heap.size]? = some (.cells #[v'] 31 (0, 0)) ∧ RowTo 5 base (.slice ad (u8s l).length cap) w v' (u8s (l ++ pre.map byteOf)) W ∧
            ∀ g, v'.ownBlock = some g → own (.slice ad (u8s l).length cap) g ∨ w.heap.size + 4 ≤ g) (fun _ _ _ => False) (pre ++ [(c, b)]) W .normal { tmps := #[], defers := [] } (w2.setCell ⟨w.heap.size, 0, none⟩ v2) := by
      intro d v2 w2 hd hown' hgrow hnew
      have hk2 : Keeps (own v') W w2 := ((Keeps.refl (own v') W).alloc _).grown hgrow (fun k _ e => e)
      have hvb : ¬ own v' w.heap.size := fun e => by
        obtain ⟨c', hc'⟩ := row_type H2.out.row e
        exact ne_of_types hc' H1.out (by decide) rfl
      have hb2 := hk2.heap H1.out hvb
      have hR := H2.out.append (ys := u8s (l ++ pre.map byteOf) ++ [.int .u8 (d : Nat)]) (by simpa using hown') hgrow hnew
      have hset : Keeps (fun k => k = w.heap.size) w2 (w2.setCell ⟨w.heap.size, 0, none⟩ v2) := (Keeps.refl (fun k => k = w.heap.size) w2).setCell (p := ⟨w.heap.size, 0, none⟩) (fun _ => rfl) v2
      have hn2 : ∀ g, v2.ownBlock = some g → own (.slice ad (u8s l).length cap) g ∨ w.heap.size + 4 ≤ g := fun g hg => by
        rcases hnew g hg with h' | h'
        · exact H3.out g h'
        · simp at h'; omega
      refine ⟨?_, v2, ?_, ⟨?_, ?_, ?_⟩, hn2⟩
      · refine (hk2.mono (S' := fun k => k = w.heap.size ∨ own (.slice ad (u8s l).length cap) k ∨ w.heap.size + 4 ≤ k) (fun k _ e => ?_)).trans hset (fun k _ e => .inl e)
        rcases H3.out k e with h' | h'
        · exact .inr (.inl h')
        · exact .inr (.inr h')
      · have := heap_setCell_same w2 w.heap.size 0 _ _ v2 hb2
        simpa using this
      · have e1 : u8s (l ++ (pre ++ [(c, b)]).map byteOf) = u8s (l ++ pre.map byteOf) ++ [.int .u8 (d : Nat)] := by simp [u8s, hd]
        rw [e1]
        refine hset.row hR.row (fun g hg e => ?_)
        subst e
        rcases hn2 _ hg with h' | h'
        · have := (h.lt _ h').2; omega
        · omega
      · exact hR.keeps.trans hset (fun k hk e => by omega)
      · intro g hg
        exact hR.new g hg
    have Hfin := Lib.hid fin
    have Hsp := Lib.hid hsp
    clear h1 h2 h3 fin hsp
    cases b
    · have ho := or128 c hc128
      obtain ⟨d, hd⟩ : ∃ d, d = c + 128 := ⟨_, rfl⟩
      rw [← hd] at ho
      have Hd := Lib.hid hd
      clear hd
      gi_wp2_with (gi_at_builtin; refine wpListIn_append_new _ rfl _ _ 31 rfl base 5 i0 (.int .u8 0) 1 1 Try.underlying31 hi hz0 hz1 hz2 rfl (by decide) _ _ _ rfl (hrow.alloc _) ⟨W.heap.size, 0, none⟩ 1 1 [.int .u8 (d : Nat)] rfl rfl ?c1 ?c2 ?c3 ?c4 ?c5 ?_)
      case c1 => exact cell_one_new _ _ _
      case c2 => simp [Value.oneCell']
      case c3 => unfold maxLen; omega
      case c4 => omega
      case c5 => simp; omega
      intro v2 w2 hown' hgrow hnew
      obtain ⟨ad2, cap2, rfl⟩ := row_slice hown'
      have hk2 : Keeps (own v') W w2 := ((Keeps.refl (own v') W).alloc _).grown hgrow (fun k _ e => e)
      have hvb : ¬ own v' w.heap.size := fun e => by
        obtain ⟨c', hc'⟩ := row_type H2.out.row e
        exact ne_of_types hc' H1.out (by decide) rfl
      have d0 : w2.cell? ⟨w.heap.size, 0, none⟩ = some v' := hk2.cell hc0 hvb
      have e0 : w2.frozen? ⟨w.heap.size, 0, none⟩ = false := (frozen_kept2 hk2 hc0 hvb).trans hf0
      have HF := Lib.hid (Hfin.out _ _ w2 (by rw [Hd.out]; rfl) hown' hgrow (by simpa using hnew))
      clear hown' hgrow hnew hk2 hvb hc0 hf0 hrow
      gi_wp2
      exact HF.out
    · gi_wp2_with (gi_at_builtin; refine wpListIn_append_new _ rfl _ _ 31 rfl base 5 i0 (.int .u8 0) 1 1 Try.underlying31 hi hz0 hz1 hz2 rfl (by decide) _ _ _ rfl (hrow.alloc _) ⟨W.heap.size, 0, none⟩ 1 1 [.int .u8 (c : Nat)] rfl rfl ?c1 ?c2 ?c3 ?c4 ?c5 ?_)
      case c1 => exact cell_one_new _ _ _
      case c2 => simp [Value.oneCell']
      case c3 => unfold maxLen; omega
      case c4 => omega
      case c5 => simp; omega
      intro v2 w2 hown' hgrow hnew
      obtain ⟨ad2, cap2, rfl⟩ := row_slice hown'
      have hk2 : Keeps (own v') W w2 := ((Keeps.refl (own v') W).alloc _).grown hgrow (fun k _ e => e)
      have hvb : ¬ own v' w.heap.size := fun e => by
        obtain ⟨c', hc'⟩ := row_type H2.out.row e
        exact ne_of_types hc' H1.out (by decide) rfl
      have d0 : w2.cell? ⟨w.heap.size, 0, none⟩ = some v' := hk2.cell hc0 hvb
      have e0 : w2.frozen? ⟨w.heap.size, 0, none⟩ = false := (frozen_kept2 hk2 hc0 hvb).trans hf0
      have HF := Lib.hid (Hfin.out _ _ w2 rfl hown' hgrow (by simpa using hnew))
      clear hown' hgrow hnew hk2 hvb hc0 hf0 hrow
      gi_wp2
      exact HF.out
  case done =>
    rintro D xs W rfl ⟨v', h1, h2, h3⟩ hD hK
    have hc0 : W.cell? ⟨w.heap.size, 0, none⟩ = some v' := by rw [cell_of_row _ _ _ _ _ _ h1]; rfl
    rw [venc_groups] at h2
    have H2 := Lib.hid h2
    clear h1 h2 h3
    gi_wp2
    refine ⟨by simp, .inl ⟨_, _, rfl, run_takeDeferred hK, ?_⟩⟩
    refine ⟨_, results_tmp rfl _ _ _, ⟨_, rfl, ?_⟩⟩
    have hp : Keeps (fun k => k = D) W (W.putObj D (.deferred none)) := Keeps.putObj _ _ _ rfl
    refine ⟨hp.row H2.out.row (fun g hg e => ?_), H2.out.keeps.trans hp (fun k hk e => by omega), H2.out.new⟩
    obtain ⟨c', hc'⟩ := row_type H2.out.row hg
    subst e
    rw [hK] at hc'
    cases hc'
  case stop => rintro D c pre W _ h; exact h.elim
end Go.Proofs.Ytdniaingipoggaa
