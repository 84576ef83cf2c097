/-
  WALKS: times.Put.
-/
import Derived.Test.YtdniaingipoggaaDoorWTimesC
import Derived.Deep.RegionHeld3
import Derived.Deep.DrawnRows
namespace Go.Proofs.YtdniaingipoggaaDoor
open Go.RowKit Go.Shelf
attribute [local go_sem] Oper.semAt_some
attribute [local go_sem ↓] Go.wp_at_zero Go.wp_at_succ

set_option maxHeartbeats 400000 in
theorem tput_nil (v : Value) (w : World) : Calls Tryd.prog 27 #[.pointer none, v] w fun e w' => e = .returned (.int .i64 1) ∧ Keeps (fun _ => False) w w' := by
  go_enter Tryd.func27, Tryd.ntmps27
  go_wp2
  go_ret
  exact ⟨rfl, (Keeps.refl _ _).alloc _⟩
theorem IsW.drew' {a : World} {base p : Nat} {v : Value} {l : List Bool} (h : IsW a base p v l) : IsW a.drew base p v l := ⟨h.blk, h.row, h.base⟩
def firstBits : List Int → List Bool
  | [] => []
  | t :: _ => fieldBits (U t) 64
theorem enc5_split (l : List Int) : enc5 l = firstBits l ++ encChanges (changesOf l) := by cases l <;> rfl

set_option maxRecDepth 100000 in
set_option maxHeartbeats 4000000 in
theorem tput_any (base p : Nat) (v0 v : Value) (bits : List Bool) (l : List Int) (w : World) (hW : IsW w base p v0 bits) (hb0 : base ≤ w.heap.size) (hbits : bits.length ≤ 1000000000) (hl : l.length ≤ 1000000000) (hX : ∀ x ∈ l, inI x)
    (h : Holds w v (i64s l)) (hap : ∀ k, ownH v l k → ¬ foot p v0 k) (hT : TabF w) (hbase : 0 < base) :
    Calls Tryd.prog 27 #[.pointer (some ⟨p, 0, none⟩), v] w fun e w' => e = .returned (.int .i64 0) ∧ Wrote base p v0 (bits ++ enc5 l) w w' := by
  have HH := Lib.hid h; have HAp := Lib.hid hap; have HW := Lib.hid hW; have HX := Lib.hid hX; have HT := Lib.hid hT
  obtain ⟨ad, cap, rfl, hcap, _⟩ := h
  rw [i64s_length] at hcap HH HAp ⊢
  have hpl := hW.lt
  have hvl : ∀ k, v0.ownBlock = some k → k < w.heap.size := fun k hk => hW.own_lt hk
  have HVL := Lib.hid hvl
  have hvb : ∀ k, v0.ownBlock = some k → base ≤ k := fun k hk => (hW.row.lt k hk).1
  have HVB := Lib.hid hvb
  have hpb : base ≤ p := hW.base
  clear hap hW hX hvl hvb hT
  refine (callsIn_wide (n := 0)).1 ?_
  refine callsIn_of_wp_marks Tryd.func27 rfl trivial ?_ rfl
  simp only [Tryd.ntmps27, List.size_toArray, List.length_cons, List.length_nil, Nat.reduceAdd, Nat.reduceSub, Array.replicate_succ, Array.replicate_zero, List.push_toArray, List.append_toArray, List.nil_append, List.cons_append]
  obtain ⟨WA, hWA⟩ : ∃ WA, WA = w.alloc (.cells #[.pointer (some ⟨p, 0, none⟩)] 45) := ⟨_, rfl⟩
  have hsA : WA.heap.size = w.heap.size + 1 := by rw [hWA]; simp
  have hkA : ∀ S, Keeps S w WA := fun S => by rw [hWA]; exact (Keeps.refl S w).alloc _
  have hboxA : WA.heap[w.heap.size]? = some (.cells #[.pointer (some ⟨p, 0, none⟩)] 45 (0, 0)) := by rw [hWA]; exact heap_alloc_new w _
  have hIA := HW.out.keeps (hkA (fun _ => False)) (fun h => h) (fun _ _ h => h)
  have hHA := HH.out.keeps (hkA (fun _ => False)) (fun _ _ h => h)
  obtain ⟨hd, hhd⟩ : ∃ hd : List Bool, hd = firstBits l := ⟨_, rfl⟩
  have hsplit := enc5_split l
  rw [← hhd] at hsplit
  have hhl : hd.length ≤ 64 := by rw [hhd]; cases l <;> simp [firstBits, fieldBits_length]
  have HS := Lib.hid hsplit
  have HWA := Lib.hid hWA; have HKA := Lib.hid hkA; have HBA := Lib.hid hboxA; have HIA := Lib.hid hIA; have HHA := Lib.hid hHA
  clear hsplit hWA hkA hboxA hIA hHA
  by_cases hne : 0 < l.length
  · obtain ⟨t, r, hlr⟩ : ∃ t r, l = t :: r := by cases l with | nil => simp at hne | cons t r => exact ⟨t, r, rfl⟩
    obtain ⟨bl, off, hadr, hct⟩ := long_cell HHA.out (j := 0) (y := t) (by rw [hlr]; rfl)
    have hhd2 : hd = fieldBits (U t) 64 := by rw [hhd, hlr]; rfl
    have HHD := Lib.hid hhd2; have HLR := Lib.hid hlr
    have hct0 : WA.cell? ⟨bl, off, none⟩ = some (.int .i64 t) := hct
    have hcb : WA.cell? ⟨w.heap.size, 0, none⟩ = some (.pointer (some ⟨p, 0, none⟩)) := by rw [cell_of_row _ _ _ _ _ _ HBA.out]; rfl
    have hUt : IntKind.u64.wrap t = ((U t : Nat) : Int) := U_wrap t
    have hUl := U_lt t
    have hl0 : (0 : Int) < l.length := by omega
    have hfbx : ¬ foot p v0 w.heap.size := fun e => by
      rcases e with e | e
      · omega
      · have := HVL.out _ e; omega
    have hfbl : ¬ foot p v0 bl := HAp.out bl ⟨by rw [hlr]; simp, by rw [hadr]; rfl⟩
    subst hadr
    clear hhd hhd2 hlr hct hne
    gi_wp2
    rw [← HWA.out]
    refine wpIn_wide.2 ?_
    go_region_held3 (fun w' => w'.cell? ⟨w.heap.size, 0, none⟩ = some (.pointer (some ⟨p, 0, none⟩)) ∧ w'.cell? ⟨bl, off, none⟩ = some (.int .i64 t)) (go_keep) ((go_at_call 26; go_must (refine (wbits_any base p v0 bits (U t) 64 WA.drew HIA.out.drew' (by omega) (by decide) (by omega) (by simp; omega)).mono ?_; rintro e WB ⟨rfl, vB, iB, kB, nB⟩; have sB1 := kB.cell (p := ⟨w.heap.size, 0, none⟩) hcb hfbx; have sB2 := kB.cell (p := ⟨bl, off, none⟩) hct0 hfbl)))
    have hhd1 := HHD.out
    have HSB : Hid (w.heap.size + 1 ≤ WB.heap.size) := Lib.hid (by have := kB.size; simp at this; omega)
    have HHB : Hid (Holds WB (.slice (some ⟨bl, off, none⟩) l.length cap) (i64s l)) := Lib.hid ((HHA.out.keeps (S := fun _ => False) (Keeps.refl _ WA).drew (fun _ _ h => h)).keepsH kB i64s_nil (fun g hg => HAp.out g hg))
    have HBB : Hid (WB.heap[w.heap.size]? = some (.cells #[.pointer (some ⟨p, 0, none⟩)] 45 (0, 0))) := Lib.hid (kB.heap HBA.out hfbx)
    have HIB : Hid (IsW WB base p vB (bits ++ hd)) := Lib.hid (by rw [hhd1]; exact iB)
    have HKB : Hid (Keeps (foot p v0) w WB) := Lib.hid (((HKA.out (foot p v0)).drew).trans kB (fun _ _ h => h))
    have HNB : Hid (∀ g, vB.ownBlock = some g → v0.ownBlock = some g ∨ w.heap.size + 1 ≤ g) := Lib.hid (fun g hg => (nB g hg).imp id (fun h => by simp at h; omega))
    have HTW : Hid (TabF WB) := Lib.hid (HT.out.keeps HKB.out (fun h => by
      rcases h with h | h
      · omega
      · have := HVB.out 0 h; omega))
    clear iB kB nB sB1 sB2 hhd1 hct0 hcb hfbx hfbl
    obtain ⟨n1, hn1⟩ : ∃ n1, n1 = WB.heap.size := ⟨_, rfl⟩
    have hn1w : w.heap.size + 1 ≤ n1 := by rw [hn1]; exact HSB.out
    gi_wp2
    refine ⟨trivial, rfl, (callsIn_wide.2 (changes_any (some ⟨bl, off, none⟩) l.length cap WB)).mono ?_⟩
    rintro e w1 ⟨rfl, rfl⟩
    have hseq := changes_here (some ⟨bl, off, none⟩) cap l WB (by omega) HHB.out HX.out
    rw [← hn1] at hseq ⊢
    obtain ⟨W0, hW0⟩ : ∃ W0, W0 = WB.alloc (.cells #[.slice (some ⟨bl, off, none⟩) l.length cap] 26) := ⟨_, rfl⟩
    have hsz : W0.heap.size = n1 + 1 := by rw [hW0, hn1]; simp
    have hkW : ∀ S, Keeps S WB W0 := fun S => by rw [hW0]; exact (Keeps.refl S WB).alloc _
    have hbox : W0.heap[w.heap.size]? = some (.cells #[.pointer (some ⟨p, 0, none⟩)] 45 (0, 0)) := (hkW (fun _ => False)).heap HBB.out (fun h => h)
    have hIB0 := HIB.out.keeps (hkW (fun _ => False)) (fun h => h) (fun _ _ h => h)
    rw [← hW0] at hseq ⊢
    have HSeq := Lib.hid hseq; have HI0 := Lib.hid hIB0; have HBOX := Lib.hid hbox; have HKW := Lib.hid hkW; have HN1 := Lib.hid hn1
    clear hW0 hseq hIB0 hbox hkW hn1
    have hfB : ∀ k, foot p vB k → k < n1 ∧ k ≠ w.heap.size ∧ base ≤ k := fun k hk => by
      rcases hk with rfl | hk
      · exact ⟨by omega, by omega, hpb⟩
      · have h1 := HIB.out.own_lt hk
        refine ⟨by rw [HN1.out]; exact h1, ?_, (HIB.out.row.lt k hk).1⟩
        rcases HNB.out k hk with h | h
        · have := HVL.out k h; omega
        · omega
    have HFB := Lib.hid hfB
    have hoB : ∀ k, ownH (.slice (some ⟨bl, off, none⟩) l.length cap) l k → k < w.heap.size := fun k hk => ownI_lt HH.out hk
    have HOB := Lib.hid hoB
    have hfO : ∀ k, foot p vB k → ¬ ownH (.slice (some ⟨bl, off, none⟩) l.length cap) l k := fun k hk ho => by
      rcases hk with rfl | hk
      · exact HAp.out _ ho (.inl rfl)
      · rcases HNB.out k hk with h | h
        · exact HAp.out _ ho (.inr h)
        · have := HOB.out k ho; omega
    have HFO := Lib.hid hfO
    have h0B : ¬ foot p vB 0 := fun h => by have := (HFB.out 0 h).2.2; omega
    have HTB := Lib.hid (HTW.out.keeps (HKW.out (fun _ => False)) (fun h => h))
    clear hfB hoB hfO
    gi_wp2
    refine wpIn_rangeFunc_r (gf := 64) (lb := #[.pointer (some ⟨n1, 0, none⟩)]) (w := W0) rfl (enters_of Tryd.func64 (by kernel_rfl) rfl)
      HSeq.out (T := fun k => foot p vB k ∨ n1 + 3 ≤ k) (fun x => rfl) (fun _ h => h.elim)
      (fun k hk => ?hown1) ?hT1 ?hT21
      (fun pre W => W.heap[w.heap.size]? = some (.cells #[.pointer (some ⟨p, 0, none⟩)] 45 (0, 0)) ∧ ∃ v', IsW W base p v' (bits ++ hd ++ encChanges pre) ∧ Keeps (foot p vB) WB W ∧ ∀ g, v'.ownBlock = some g → vB.ownBlock = some g ∨ n1 + 3 ≤ g)
      (fun _ _ _ => False) ?hI1 (fun _ _ _ _ h _ => h) ?h01
      (fun x => { tmps := #[.pointer (some ⟨p, 0, none⟩), .slice (some ⟨bl, off, none⟩) l.length cap, .pointer (some ⟨w.heap.size, 0, none⟩), undef, .int .i64 0, .int .i64 x, undef, .pointer (some ⟨p, 0, none⟩), .bool false, .slice (some ⟨bl, off, none⟩) l.length cap, .int .i64 l.length, .bool true, .pointer (some ⟨p, 0, none⟩), .slice (some ⟨bl, off, none⟩) l.length cap, .pointer (some ⟨bl, off, none⟩), .int .i64 t, .int .u64 ((U t : Nat) : Int), .int .i64 0, .slice (some ⟨bl, off, none⟩) l.length cap, .func (.func 64) #[] #[.pointer (some ⟨n1, 0, none⟩)], .int .i64 x, undef, undef, undef, undef, undef, undef, undef, undef, undef, undef, undef, undef, undef, undef, undef, undef], defers := [] })
      ?assign1 ?body1 ?done1 ?stop1
    case hown1 =>
      rcases hk with e | e
      · omega
      · have := HOB.out k e; omega
    case hT1 =>
      rintro k (hk | hk) (e | e)
      · have := (HFB.out k hk).1; omega
      · exact HFO.out k hk e
      · omega
      · have := HOB.out k e; omega
    case hT21 =>
      rintro k (hk | hk)
      · have := (HFB.out k hk).1; omega
      · omega
    case hI1 =>
      rintro pre A B ⟨h1, v', h2, h3, h4⟩ hk
      refine ⟨hk.heap h1 ?_, v', h2.keeps hk ?_ (fun g hg => ?_), h3.trans hk (fun k hk hs => ?_), h4⟩
      · rintro (e | e | e)
        · exact e
        · omega
        · omega
      · rintro (e | e | e)
        · exact e
        · omega
        · omega
      · rintro (e | e | e)
        · exact e
        · rcases h4 g hg with h | h
          · have := (HFB.out g (.inr h)).1; omega
          · omega
        · rcases h4 g hg with h | h
          · have := (HFB.out g (.inr h)).1; omega
          · omega
      · have := HN1.out
        rcases hs with e | e | e
        · exact e.elim
        · omega
        · omega
    case h01 => exact ⟨HBOX.out, vB, by simpa [encChanges] using HI0.out, HKW.out _, fun g hg => .inl hg⟩
    case assign1 =>
      intro lp x W K hK
      simp only [encI]
      gi_wp2
      exact hK
    case body1 =>
      rintro lp pre x W ⟨h1, v', h2, h3, h4⟩ hsp hsz2
      have hxI : inI x := changesOf_in l x (hsp.subset (by simp))
      have hlp : (encChanges pre).length ≤ 68000000000 := by have := encChanges_le pre; have := hsp.length_le; have := changesOf_length l; simp at *; omega
      have hTW := HTW.out.keeps h3 h0B
      obtain ⟨k, hk⟩ : ∃ k, k = formI x := ⟨_, rfl⟩
      have hk4 : k ≤ 4 := by rw [hk]; exact formI_le x
      have hend : bits ++ hd ++ encChanges (pre ++ [x]) = bits ++ hd ++ encChanges pre ++ fieldBits (fBits k) (fLen k) ++ fieldBits (U x) (fWidth k) := by rw [encChanges_snoc, encChange, ← hk]; simp
      have hL := fLen_le k hk4
      have hWd := fWidth_le k hk4
      have hFb : fBits k ≤ 15 := by
        have hc : k = 0 ∨ k = 1 ∨ k = 2 ∨ k = 3 ∨ k = 4 := by omega
        rcases hc with rfl | rfl | rfl | rfl | rfl <;> simp [fBits]
      have hUx : U x ≤ 18446744073709551615 := by have := U_lt x; omega
      have hUw : IntKind.u64.wrap x = ((U x : Nat) : Int) := U_wrap x
      have hlen : (bits ++ hd ++ encChanges pre).length ≤ 70000000000 := by rw [List.length_append, List.length_append]; omega
      obtain ⟨cur, hcur⟩ : ∃ cur, cur = bits ++ hd ++ encChanges pre := ⟨_, rfl⟩
      rw [← hcur] at h2 hend hlen
      have H1 := Lib.hid h1; have H2 := Lib.hid h2; have H3 := Lib.hid h3; have H4 := Lib.hid h4; have HTQ := Lib.hid hTW; have HK := Lib.hid hk; have HEND := Lib.hid hend; have HXI := Lib.hid hxI; have HUW := Lib.hid hUw
      have hb1 : base ≤ W.heap.size := by omega
      clear h1 h2 h3 h4 hsp hTW hk hend hxI hlp hcur hUw
      gi_wp2
      refine ⟨trivial, rfl, ((callsIn_wide.2 (formOf_any x W HXI.out HTQ.out)).inRound lp).mono ?_⟩
      rw [← HK.out]
      rintro e W1 ⟨rfl, k1⟩
      have hT1 := HTQ.out.keeps k1 (fun h => h)
      have hbx := k1.heap H1.out (fun h => h)
      obtain ⟨t0, t1, t2⟩ := hT1.cell k hk4
      have hbs : w.heap.size < W1.heap.size := (Array.getElem?_eq_some_iff.1 hbx).1
      have hkk : (k : Int) < 5 := by omega
      obtain ⟨a, ha⟩ : ∃ a, a = fLen k := ⟨_, rfl⟩
      obtain ⟨b, hb⟩ : ∃ b, b = fWidth k := ⟨_, rfl⟩
      obtain ⟨f, hf⟩ : ∃ f, f = fBits k := ⟨_, rfl⟩
      rw [← ha] at t1 hL
      rw [← hb] at t2 hWd
      rw [← hf] at t0 hFb
      obtain ⟨WF, hWF⟩ : ∃ WF, WF = W1.alloc (.cells #[.int .u64 (f : Nat), .int .i64 (a : Nat), .int .i64 (b : Nat)] 93) := ⟨_, rfl⟩
      have kF : Keeps (fun _ => False) W WF := by rw [hWF]; exact k1.alloc _
      have hXF : WF.heap[W1.heap.size]? = some (.cells #[.int .u64 (f : Nat), .int .i64 (a : Nat), .int .i64 (b : Nat)] 93 (0, 0)) := by rw [hWF]; exact heap_alloc_new W1 _
      obtain ⟨D, hD⟩ : ∃ D, D = W1.heap.size := ⟨_, rfl⟩
      rw [← hD] at hXF
      have iF := H2.out.keeps kF (fun h => h) (fun _ _ h => h)
      have bF := kF.heap H1.out (fun h => h)
      have ca : ∀ o, (W1.alloc o).cell? ⟨w.heap.size, 0, none⟩ = some (.pointer (some ⟨p, 0, none⟩)) := fun o => (cell_alloc_below W1 o _ hbs).trans (by rw [cell_of_row _ _ _ _ _ _ hbx]; rfl)
      have hDp : ∀ (u : Value) (L : List Bool) (V : World), IsW V base p u L → V.heap[D]? = some (.cells #[.int .u64 (f : Nat), .int .i64 (a : Nat), .int .i64 (b : Nat)] 93 (0, 0)) → ¬ foot p u D := fun u L V hV hVD e => by
        rcases e with e | e
        · have := H2.out.lt; have := k1.size; omega
        · obtain ⟨c', hc'⟩ := row_type hV.row e
          exact ne_of_types hc' hVD (by decide) rfl
      have hbv : ∀ (u : Value), (∀ g, u.ownBlock = some g → vB.ownBlock = some g ∨ n1 + 3 ≤ g) → ¬ foot p u w.heap.size := fun u hu e => by
        rcases e with e | e
        · omega
        · rcases hu _ e with h | h
          · exact (HFB.out _ (.inr h)).2.1 rfl
          · omega
      have HWF := Lib.hid hWF; have KF := Lib.hid kF; have HXF := Lib.hid hXF; have IF := Lib.hid iF; have BF := Lib.hid bF; have HDP := Lib.hid hDp; have HBV := Lib.hid hbv; have HA := Lib.hid ha; have HB := Lib.hid hb; have HF := Lib.hid hf; have HD := Lib.hid hD
      have hbF : base ≤ WF.heap.size := by have := kF.size; omega
      have hsF : W.heap.size ≤ WF.heap.size := kF.size
      clear hWF kF hXF iF bF hDp hbv ha hb hf hT1 hbx k1 hD
      gi_wp2
      rw [← HD.out, ← HWF.out]
      refine ⟨trivial, rfl, ((callsIn_wide.2 (wbits_any base p v' cur f a WF IF.out (by omega) (by omega) (by omega) hbF)).inRound lp).mono ?_⟩
      rintro e W2 ⟨rfl, v2, i2, k2, n2⟩
      have hq1 : W2.cell? ⟨w.heap.size, 0, none⟩ = some (.pointer (some ⟨p, 0, none⟩)) := k2.cell (by rw [cell_of_row _ _ _ _ _ _ BF.out]; rfl) (HBV.out v' H4.out)
      have hXF2 := k2.heap HXF.out (HDP.out v' _ WF IF.out HXF.out)
      have hq2 : W2.cell? ⟨D, 2, none⟩ = some (.int .i64 (b : Nat)) := by rw [cell_of_row _ _ _ _ _ _ hXF2]; rfl
      have hb2 := k2.heap BF.out (HBV.out v' H4.out)
      have hn2 : ∀ g, v2.ownBlock = some g → vB.ownBlock = some g ∨ n1 + 3 ≤ g := fun g hg => by
        rcases n2 g hg with h | h
        · exact H4.out g h
        · exact .inr (by omega)
      have K2 : Keeps (fun k => foot p vB k ∨ n1 + 3 ≤ k) W W2 := (KF.out.mono (fun _ _ h => h.elim)).trans (k2.mono (S' := fun k => foot p vB k ∨ n1 + 3 ≤ k) (fun k _ e => by
        rcases e with e | e
        · exact .inl (.inl e)
        · rcases H4.out k e with h | h
          · exact .inl (.inr h)
          · exact .inr h)) (fun _ _ h => h)
      have hUw2 := HUW.out
      have hbb2 : base ≤ W2.heap.size := by have := k2.size; omega
      have hss2 : WF.heap.size ≤ W2.heap.size := k2.size
      have hlen2 : (cur ++ fieldBits f a).length ≤ 80000000000 := by rw [List.length_append, fieldBits_length]; omega
      have I2 := Lib.hid i2; have HK2 := Lib.hid K2; have HN2 := Lib.hid hn2; have HB2 := Lib.hid hb2
      clear i2 k2 n2 K2 hn2 hb2 hXF2 t0 t1 t2 ca
      gi_wp2
      refine ⟨trivial, rfl, ((callsIn_wide.2 (wbits_any base p v2 _ (U x) b W2 I2.out hUx hWd (by omega) hbb2)).inRound lp).mono ?_⟩
      rintro e W3 ⟨rfl, v3, i3, k3, n3⟩
      have K3 : Keeps (fun k => foot p vB k ∨ n1 + 3 ≤ k) W2 W3 := k3.mono (fun k _ e => by
        rcases e with e | e
        · exact .inl (.inl e)
        · rcases HN2.out k e with h | h
          · exact .inl (.inr h)
          · exact .inr h)
      have K23 := HK2.out.trans K3 (fun _ _ h => h)
      have hb3 := k3.heap HB2.out (HBV.out v2 HN2.out)
      have hn3 : ∀ g, v3.ownBlock = some g → vB.ownBlock = some g ∨ n1 + 3 ≤ g := fun g hg => by
        rcases n3 g hg with h | h
        · exact HN2.out g h
        · exact .inr (by omega)
      rw [HA.out, HB.out, HF.out, ← HEND.out] at i3
      have hk3 : Keeps (foot p vB) WB W3 := H3.out.trans K23 (fun k hk e => e.elim id (fun h => by have := HN1.out; omega))
      have F1 := Lib.hid K23; have F2 := Lib.hid hb3; have F3 := Lib.hid hn3; have F4 := Lib.hid hk3; have F5 := Lib.hid i3
      clear i3 k3 n3 K3 K23 hb3 hn3 hk3 hq1 hq2 hUw2
      gi_wp2
      exact ⟨F1.out, F2.out, v3, F5.out, F4.out, F3.out⟩
    case done1 =>
      rintro D xs W rfl ⟨h1, v', h2, h3, h4⟩ hD hK
      have H2 := Lib.hid h2; have H3 := Lib.hid h3; have H4 := Lib.hid h4
      clear h1 h2 h3 h4
      gi_wp2
      refine ⟨by simp, .inl ⟨_, _, rfl, run_takeDeferred hK, ?_⟩⟩
      have hfin : Wrote base p vB (bits ++ hd ++ encChanges (changesOf l)) WB (W.putObj D (.deferred none)) := by
        refine ⟨v', ?_, ?_, fun g hg => ?_⟩
        · have hp : Keeps (fun k => k = D) W (W.putObj D (.deferred none)) := Keeps.putObj _ _ _ rfl
          refine H2.out.keeps hp (by omega) (fun g hg e => ?_)
          obtain ⟨c', hc'⟩ := row_type H2.out.row hg
          subst e
          rw [hK] at hc'
          cases hc'
        · exact H3.out.trans (Keeps.putObj (S := fun k => k = D) _ _ _ rfl) (fun k hk e => by have := HN1.out; omega)
        · have := HN1.out
          rcases H4.out g hg with h | h
          · exact .inl h
          · exact .inr (by omega)
      have hall := Wrote.trans HKB.out (fun g hg => (HNB.out g hg).imp id (fun h => by omega)) hfin
      rw [List.append_assoc, ← HS.out] at hall
      exact ⟨_, results_tmp rfl _ _ _, ⟨rfl, hall⟩⟩
    case stop1 => rintro D c pre W _ h; exact h.elim
  · have hl0 : l = [] := List.eq_nil_of_length_eq_zero (by omega)
    have hhd0 : hd = [] := by rw [hhd, hl0]; rfl
    obtain ⟨WB, hWB⟩ : ∃ WB, WB = WA := ⟨_, rfl⟩
    obtain ⟨vB, hvB⟩ : ∃ vB, vB = v0 := ⟨_, rfl⟩
    have HSB : Hid (w.heap.size + 1 ≤ WB.heap.size) := Lib.hid (by rw [hWB]; omega)
    have HHB : Hid (Holds WB (.slice ad l.length cap) (i64s l)) := Lib.hid (by rw [hWB]; exact HHA.out)
    have HBB : Hid (WB.heap[w.heap.size]? = some (.cells #[.pointer (some ⟨p, 0, none⟩)] 45 (0, 0))) := Lib.hid (by rw [hWB]; exact HBA.out)
    have HIB : Hid (IsW WB base p vB (bits ++ hd)) := Lib.hid (by rw [hWB, hvB, hhd0, List.append_nil]; exact HIA.out)
    have HKB : Hid (Keeps (foot p v0) w WB) := Lib.hid (by rw [hWB]; exact HKA.out _)
    have HNB : Hid (∀ g, vB.ownBlock = some g → v0.ownBlock = some g ∨ w.heap.size + 1 ≤ g) := Lib.hid (fun g hg => .inl (by rw [← hvB]; exact hg))
    have HTW : Hid (TabF WB) := Lib.hid (by rw [hWB]; exact HT.out.keeps (HKA.out (fun _ => False)) (fun h => h))
    have hne' : ¬ (0 : Int) < l.length := by omega
    have HWB := Lib.hid hWB
    clear hWB hvB hhd0 hhd hl0 hne
    gi_wp2
    rw [← HWA.out, ← HWB.out]
    obtain ⟨n1, hn1⟩ : ∃ n1, n1 = WB.heap.size := ⟨_, rfl⟩
    have hn1w : w.heap.size + 1 ≤ n1 := by rw [hn1]; exact HSB.out
    gi_wp2
    refine ⟨trivial, rfl, (callsIn_wide.2 (changes_any ad l.length cap WB)).mono ?_⟩
    rintro e w1 ⟨rfl, rfl⟩
    have hseq := changes_here ad cap l WB (by omega) HHB.out HX.out
    rw [← hn1] at hseq ⊢
    obtain ⟨W0, hW0⟩ : ∃ W0, W0 = WB.alloc (.cells #[.slice ad l.length cap] 26) := ⟨_, rfl⟩
    have hsz : W0.heap.size = n1 + 1 := by rw [hW0, hn1]; simp
    have hkW : ∀ S, Keeps S WB W0 := fun S => by rw [hW0]; exact (Keeps.refl S WB).alloc _
    have hbox : W0.heap[w.heap.size]? = some (.cells #[.pointer (some ⟨p, 0, none⟩)] 45 (0, 0)) := (hkW (fun _ => False)).heap HBB.out (fun h => h)
    have hIB0 := HIB.out.keeps (hkW (fun _ => False)) (fun h => h) (fun _ _ h => h)
    rw [← hW0] at hseq ⊢
    have HSeq := Lib.hid hseq; have HI0 := Lib.hid hIB0; have HBOX := Lib.hid hbox; have HKW := Lib.hid hkW; have HN1 := Lib.hid hn1
    clear hW0 hseq hIB0 hbox hkW hn1
    have hfB : ∀ k, foot p vB k → k < n1 ∧ k ≠ w.heap.size ∧ base ≤ k := fun k hk => by
      rcases hk with rfl | hk
      · exact ⟨by omega, by omega, hpb⟩
      · have h1 := HIB.out.own_lt hk
        refine ⟨by rw [HN1.out]; exact h1, ?_, (HIB.out.row.lt k hk).1⟩
        rcases HNB.out k hk with h | h
        · have := HVL.out k h; omega
        · omega
    have HFB := Lib.hid hfB
    have hoB : ∀ k, ownH (.slice ad l.length cap) l k → k < w.heap.size := fun k hk => ownI_lt HH.out hk
    have HOB := Lib.hid hoB
    have hfO : ∀ k, foot p vB k → ¬ ownH (.slice ad l.length cap) l k := fun k hk ho => by
      rcases hk with rfl | hk
      · exact HAp.out _ ho (.inl rfl)
      · rcases HNB.out k hk with h | h
        · exact HAp.out _ ho (.inr h)
        · have := HOB.out k ho; omega
    have HFO := Lib.hid hfO
    have h0B : ¬ foot p vB 0 := fun h => by have := (HFB.out 0 h).2.2; omega
    have HTB := Lib.hid (HTW.out.keeps (HKW.out (fun _ => False)) (fun h => h))
    clear hfB hoB hfO
    gi_wp2
    refine wpIn_rangeFunc_r (gf := 64) (lb := #[.pointer (some ⟨n1, 0, none⟩)]) (w := W0) rfl (enters_of Tryd.func64 (by kernel_rfl) rfl)
      HSeq.out (T := fun k => foot p vB k ∨ n1 + 3 ≤ k) (fun x => rfl) (fun _ h => h.elim)
      (fun k hk => ?hown2) ?hT2 ?hT22
      (fun pre W => W.heap[w.heap.size]? = some (.cells #[.pointer (some ⟨p, 0, none⟩)] 45 (0, 0)) ∧ ∃ v', IsW W base p v' (bits ++ hd ++ encChanges pre) ∧ Keeps (foot p vB) WB W ∧ ∀ g, v'.ownBlock = some g → vB.ownBlock = some g ∨ n1 + 3 ≤ g)
      (fun _ _ _ => False) ?hI2 (fun _ _ _ _ h _ => h) ?h02
      (fun x => { tmps := #[.pointer (some ⟨p, 0, none⟩), .slice ad l.length cap, .pointer (some ⟨w.heap.size, 0, none⟩), undef, .int .i64 0, .int .i64 x, undef, .pointer (some ⟨p, 0, none⟩), .bool false, .slice ad l.length cap, .int .i64 l.length, .bool false, undef, undef, undef, undef, undef, undef, .slice ad l.length cap, .func (.func 64) #[] #[.pointer (some ⟨n1, 0, none⟩)], .int .i64 x, undef, undef, undef, undef, undef, undef, undef, undef, undef, undef, undef, undef, undef, undef, undef, undef], defers := [] })
      ?assign2 ?body2 ?done2 ?stop2
    case hown2 =>
      rcases hk with e | e
      · omega
      · have := HOB.out k e; omega
    case hT2 =>
      rintro k (hk | hk) (e | e)
      · have := (HFB.out k hk).1; omega
      · exact HFO.out k hk e
      · omega
      · have := HOB.out k e; omega
    case hT22 =>
      rintro k (hk | hk)
      · have := (HFB.out k hk).1; omega
      · omega
    case hI2 =>
      rintro pre A B ⟨h1, v', h2, h3, h4⟩ hk
      refine ⟨hk.heap h1 ?_, v', h2.keeps hk ?_ (fun g hg => ?_), h3.trans hk (fun k hk hs => ?_), h4⟩
      · rintro (e | e | e)
        · exact e
        · omega
        · omega
      · rintro (e | e | e)
        · exact e
        · omega
        · omega
      · rintro (e | e | e)
        · exact e
        · rcases h4 g hg with h | h
          · have := (HFB.out g (.inr h)).1; omega
          · omega
        · rcases h4 g hg with h | h
          · have := (HFB.out g (.inr h)).1; omega
          · omega
      · have := HN1.out
        rcases hs with e | e | e
        · exact e.elim
        · omega
        · omega
    case h02 => exact ⟨HBOX.out, vB, by simpa [encChanges] using HI0.out, HKW.out _, fun g hg => .inl hg⟩
    case assign2 =>
      intro lp x W K hK
      simp only [encI]
      gi_wp2
      exact hK
    case body2 =>
      rintro lp pre x W ⟨h1, v', h2, h3, h4⟩ hsp hsz2
      have hxI : inI x := changesOf_in l x (hsp.subset (by simp))
      have hlp : (encChanges pre).length ≤ 68000000000 := by have := encChanges_le pre; have := hsp.length_le; have := changesOf_length l; simp at *; omega
      have hTW := HTW.out.keeps h3 h0B
      obtain ⟨k, hk⟩ : ∃ k, k = formI x := ⟨_, rfl⟩
      have hk4 : k ≤ 4 := by rw [hk]; exact formI_le x
      have hend : bits ++ hd ++ encChanges (pre ++ [x]) = bits ++ hd ++ encChanges pre ++ fieldBits (fBits k) (fLen k) ++ fieldBits (U x) (fWidth k) := by rw [encChanges_snoc, encChange, ← hk]; simp
      have hL := fLen_le k hk4
      have hWd := fWidth_le k hk4
      have hFb : fBits k ≤ 15 := by
        have hc : k = 0 ∨ k = 1 ∨ k = 2 ∨ k = 3 ∨ k = 4 := by omega
        rcases hc with rfl | rfl | rfl | rfl | rfl <;> simp [fBits]
      have hUx : U x ≤ 18446744073709551615 := by have := U_lt x; omega
      have hUw : IntKind.u64.wrap x = ((U x : Nat) : Int) := U_wrap x
      have hlen : (bits ++ hd ++ encChanges pre).length ≤ 70000000000 := by rw [List.length_append, List.length_append]; omega
      obtain ⟨cur, hcur⟩ : ∃ cur, cur = bits ++ hd ++ encChanges pre := ⟨_, rfl⟩
      rw [← hcur] at h2 hend hlen
      have H1 := Lib.hid h1; have H2 := Lib.hid h2; have H3 := Lib.hid h3; have H4 := Lib.hid h4; have HTQ := Lib.hid hTW; have HK := Lib.hid hk; have HEND := Lib.hid hend; have HXI := Lib.hid hxI; have HUW := Lib.hid hUw
      have hb1 : base ≤ W.heap.size := by omega
      clear h1 h2 h3 h4 hsp hTW hk hend hxI hlp hcur hUw
      gi_wp2
      refine ⟨trivial, rfl, ((callsIn_wide.2 (formOf_any x W HXI.out HTQ.out)).inRound lp).mono ?_⟩
      rw [← HK.out]
      rintro e W1 ⟨rfl, k1⟩
      have hT1 := HTQ.out.keeps k1 (fun h => h)
      have hbx := k1.heap H1.out (fun h => h)
      obtain ⟨t0, t1, t2⟩ := hT1.cell k hk4
      have hbs : w.heap.size < W1.heap.size := (Array.getElem?_eq_some_iff.1 hbx).1
      have hkk : (k : Int) < 5 := by omega
      obtain ⟨a, ha⟩ : ∃ a, a = fLen k := ⟨_, rfl⟩
      obtain ⟨b, hb⟩ : ∃ b, b = fWidth k := ⟨_, rfl⟩
      obtain ⟨f, hf⟩ : ∃ f, f = fBits k := ⟨_, rfl⟩
      rw [← ha] at t1 hL
      rw [← hb] at t2 hWd
      rw [← hf] at t0 hFb
      obtain ⟨WF, hWF⟩ : ∃ WF, WF = W1.alloc (.cells #[.int .u64 (f : Nat), .int .i64 (a : Nat), .int .i64 (b : Nat)] 93) := ⟨_, rfl⟩
      have kF : Keeps (fun _ => False) W WF := by rw [hWF]; exact k1.alloc _
      have hXF : WF.heap[W1.heap.size]? = some (.cells #[.int .u64 (f : Nat), .int .i64 (a : Nat), .int .i64 (b : Nat)] 93 (0, 0)) := by rw [hWF]; exact heap_alloc_new W1 _
      obtain ⟨D, hD⟩ : ∃ D, D = W1.heap.size := ⟨_, rfl⟩
      rw [← hD] at hXF
      have iF := H2.out.keeps kF (fun h => h) (fun _ _ h => h)
      have bF := kF.heap H1.out (fun h => h)
      have ca : ∀ o, (W1.alloc o).cell? ⟨w.heap.size, 0, none⟩ = some (.pointer (some ⟨p, 0, none⟩)) := fun o => (cell_alloc_below W1 o _ hbs).trans (by rw [cell_of_row _ _ _ _ _ _ hbx]; rfl)
      have hDp : ∀ (u : Value) (L : List Bool) (V : World), IsW V base p u L → V.heap[D]? = some (.cells #[.int .u64 (f : Nat), .int .i64 (a : Nat), .int .i64 (b : Nat)] 93 (0, 0)) → ¬ foot p u D := fun u L V hV hVD e => by
        rcases e with e | e
        · have := H2.out.lt; have := k1.size; omega
        · obtain ⟨c', hc'⟩ := row_type hV.row e
          exact ne_of_types hc' hVD (by decide) rfl
      have hbv : ∀ (u : Value), (∀ g, u.ownBlock = some g → vB.ownBlock = some g ∨ n1 + 3 ≤ g) → ¬ foot p u w.heap.size := fun u hu e => by
        rcases e with e | e
        · omega
        · rcases hu _ e with h | h
          · exact (HFB.out _ (.inr h)).2.1 rfl
          · omega
      have HWF := Lib.hid hWF; have KF := Lib.hid kF; have HXF := Lib.hid hXF; have IF := Lib.hid iF; have BF := Lib.hid bF; have HDP := Lib.hid hDp; have HBV := Lib.hid hbv; have HA := Lib.hid ha; have HB := Lib.hid hb; have HF := Lib.hid hf; have HD := Lib.hid hD
      have hbF : base ≤ WF.heap.size := by have := kF.size; omega
      have hsF : W.heap.size ≤ WF.heap.size := kF.size
      clear hWF kF hXF iF bF hDp hbv ha hb hf hT1 hbx k1 hD
      gi_wp2
      rw [← HD.out, ← HWF.out]
      refine ⟨trivial, rfl, ((callsIn_wide.2 (wbits_any base p v' cur f a WF IF.out (by omega) (by omega) (by omega) hbF)).inRound lp).mono ?_⟩
      rintro e W2 ⟨rfl, v2, i2, k2, n2⟩
      have hq1 : W2.cell? ⟨w.heap.size, 0, none⟩ = some (.pointer (some ⟨p, 0, none⟩)) := k2.cell (by rw [cell_of_row _ _ _ _ _ _ BF.out]; rfl) (HBV.out v' H4.out)
      have hXF2 := k2.heap HXF.out (HDP.out v' _ WF IF.out HXF.out)
      have hq2 : W2.cell? ⟨D, 2, none⟩ = some (.int .i64 (b : Nat)) := by rw [cell_of_row _ _ _ _ _ _ hXF2]; rfl
      have hb2 := k2.heap BF.out (HBV.out v' H4.out)
      have hn2 : ∀ g, v2.ownBlock = some g → vB.ownBlock = some g ∨ n1 + 3 ≤ g := fun g hg => by
        rcases n2 g hg with h | h
        · exact H4.out g h
        · exact .inr (by omega)
      have K2 : Keeps (fun k => foot p vB k ∨ n1 + 3 ≤ k) W W2 := (KF.out.mono (fun _ _ h => h.elim)).trans (k2.mono (S' := fun k => foot p vB k ∨ n1 + 3 ≤ k) (fun k _ e => by
        rcases e with e | e
        · exact .inl (.inl e)
        · rcases H4.out k e with h | h
          · exact .inl (.inr h)
          · exact .inr h)) (fun _ _ h => h)
      have hUw2 := HUW.out
      have hbb2 : base ≤ W2.heap.size := by have := k2.size; omega
      have hss2 : WF.heap.size ≤ W2.heap.size := k2.size
      have hlen2 : (cur ++ fieldBits f a).length ≤ 80000000000 := by rw [List.length_append, fieldBits_length]; omega
      have I2 := Lib.hid i2; have HK2 := Lib.hid K2; have HN2 := Lib.hid hn2; have HB2 := Lib.hid hb2
      clear i2 k2 n2 K2 hn2 hb2 hXF2 t0 t1 t2 ca
      gi_wp2
      refine ⟨trivial, rfl, ((callsIn_wide.2 (wbits_any base p v2 _ (U x) b W2 I2.out hUx hWd (by omega) hbb2)).inRound lp).mono ?_⟩
      rintro e W3 ⟨rfl, v3, i3, k3, n3⟩
      have K3 : Keeps (fun k => foot p vB k ∨ n1 + 3 ≤ k) W2 W3 := k3.mono (fun k _ e => by
        rcases e with e | e
        · exact .inl (.inl e)
        · rcases HN2.out k e with h | h
          · exact .inl (.inr h)
          · exact .inr h)
      have K23 := HK2.out.trans K3 (fun _ _ h => h)
      have hb3 := k3.heap HB2.out (HBV.out v2 HN2.out)
      have hn3 : ∀ g, v3.ownBlock = some g → vB.ownBlock = some g ∨ n1 + 3 ≤ g := fun g hg => by
        rcases n3 g hg with h | h
        · exact HN2.out g h
        · exact .inr (by omega)
      rw [HA.out, HB.out, HF.out, ← HEND.out] at i3
      have hk3 : Keeps (foot p vB) WB W3 := H3.out.trans K23 (fun k hk e => e.elim id (fun h => by have := HN1.out; omega))
      have F1 := Lib.hid K23; have F2 := Lib.hid hb3; have F3 := Lib.hid hn3; have F4 := Lib.hid hk3; have F5 := Lib.hid i3
      clear i3 k3 n3 K3 K23 hb3 hn3 hk3 hq1 hq2 hUw2
      gi_wp2
      exact ⟨F1.out, F2.out, v3, F5.out, F4.out, F3.out⟩
    case done2 =>
      rintro D xs W rfl ⟨h1, v', h2, h3, h4⟩ hD hK
      have H2 := Lib.hid h2; have H3 := Lib.hid h3; have H4 := Lib.hid h4
      clear h1 h2 h3 h4
      gi_wp2
      refine ⟨by simp, .inl ⟨_, _, rfl, run_takeDeferred hK, ?_⟩⟩
      have hfin : Wrote base p vB (bits ++ hd ++ encChanges (changesOf l)) WB (W.putObj D (.deferred none)) := by
        refine ⟨v', ?_, ?_, fun g hg => ?_⟩
        · have hp : Keeps (fun k => k = D) W (W.putObj D (.deferred none)) := Keeps.putObj _ _ _ rfl
          refine H2.out.keeps hp (by omega) (fun g hg e => ?_)
          obtain ⟨c', hc'⟩ := row_type H2.out.row hg
          subst e
          rw [hK] at hc'
          cases hc'
        · exact H3.out.trans (Keeps.putObj (S := fun k => k = D) _ _ _ rfl) (fun k hk e => by have := HN1.out; omega)
        · have := HN1.out
          rcases H4.out g hg with h | h
          · exact .inl h
          · exact .inr (by omega)
      have hall := Wrote.trans HKB.out (fun g hg => (HNB.out g hg).imp id (fun h => by omega)) hfin
      rw [List.append_assoc, ← HS.out] at hall
      exact ⟨_, results_tmp rfl _ _ _, ⟨rfl, hall⟩⟩
    case stop2 => rintro D c pre W _ h; exact h.elim
end Go.Proofs.YtdniaingipoggaaDoor
