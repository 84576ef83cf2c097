/-
  Lemmas on which LTopTruncates rests, packed out of the texts YAdd YChs XDec; each for all arguments under the hypotheses it names.
-/
import Derived.Test.YtfpcgcbehdogjaaGreatDoorT21
namespace Go.Proofs.YtfpcgcbehdogjaaGreatDoor
section
set_option maxHeartbeats 4000000
set_option maxRecDepth 100000
open Go.RowKit
def pcS (B k : Nat) (t : TypeId) : Prop := B ≤ k ∧ (t = 29 ∨ t = 127 ∨ t = 5 ∨ t = 3)
theorem qjg {x y v : Value} : ∀ {rs : List (Value × Value)} {i : Nat}, rs[i]? = some (x, y) → (cells2 Prod.fst Prod.snd rs).set (i * 2 + 1) v = cells2 Prod.fst Prod.snd (rs.set i (x, v))
 | [], _, h => by simp at h
 | a :: r, 0, h => by simp at h; subst h; rfl
 | a :: r, i + 1, h => by
   have := qjg (v := v) (rs := r) (i := i) (by simpa using h)
   have e : (i + 1) * 2 + 1 = i * 2 + 1 + 1 + 1 := by omega
   rw [e]
   simp only [cells2, List.flatMap_cons, List.cons_append, List.nil_append, List.set_cons_succ] at *
   rw [this]
theorem qjh {x y v : Value} : ∀ {rs : List (Value × Value)} {i : Nat}, rs[i]? = some (x, y) → (cells2 Prod.fst Prod.snd rs).set (i * 2) v = cells2 Prod.fst Prod.snd (rs.set i (v, y))
 | [], _, h => by simp at h
 | a :: r, 0, h => by simp at h; subst h; rfl
 | a :: r, i + 1, h => by
   have := qjh (v := v) (rs := r) (i := i) (by simpa using h)
   have e : (i + 1) * 2 = i * 2 + 1 + 1 := by omega
   rw [e]
   simp only [cells2, List.flatMap_cons, List.cons_append, List.nil_append, List.set_cons_succ] at *
   rw [this]
theorem zip_set2 {us vs : List Value} {i : Nat} {u v : Value} (h : us[i]? = some u) : us.zip (vs.set i v) = (us.zip vs).set i (u, v) := by
 apply List.ext_getElem?
 intro k
 by_cases hk : i = k
 · subst hk
   by_cases hl : i < vs.length
   · rw [List.getElem?_set_self (by rw [List.length_zip]; have := (List.getElem?_eq_some_iff.1 h).1; omega), List.getElem?_zip_eq_some]
     exact ⟨h, List.getElem?_set_self hl⟩
   · rw [List.set_eq_of_length_le (by omega), List.set_eq_of_length_le (by rw [List.length_zip]; omega)]
 · rw [List.getElem?_set_ne hk]
   simp only [List.zip, List.getElem?_zipWith, List.getElem?_set_ne hk]
theorem zip_at {us vs : List Value} {i : Nat} {u v : Value} (h1 : us[i]? = some u) (h2 : vs[i]? = some v) : (us.zip vs)[i]? = some (u, v) := List.getElem?_zip_eq_some.2 ⟨h1, h2⟩
theorem own_ne {w : World} {b1 b2 s1 s2 n1 n2 g : Nat} {e1 e2 : TypeId} {u v : Value} {xs ys : List Value} (h1 : w.ownsRow b1 e1 s1 u n1 xs) (h2 : w.ownsRow b2 e2 s2 v n2 ys) (he : e1 ≠ e2) (hu : u.ownBlock = some g) : v.ownBlock ≠ some g := fun hv => by
 obtain ⟨c1, q1⟩ := qak h1 hu
 obtain ⟨c2, q2⟩ := qak h2 hv
 exact qaf q1 q2 he rfl
theorem qbc {w : World} {b1 s1 n1 g : Nat} {e1 t : TypeId} {u : Value} {xs : List Value} {c : Array Value} {fr : Nat × Nat} (h1 : w.ownsRow b1 e1 s1 u n1 xs) (hg : w.heap[g]? = some (.cells c t fr)) (he : e1 ≠ t) : u.ownBlock ≠ some g := fun hu => by
 obtain ⟨c1, q1⟩ := qak h1 hu
 exact qaf q1 hg he rfl
structure SecAt (w : World) (D Lb R base n : Nat) (lvs : List Value) (dat : List Nat) (lens : List (List Nat)) (dv : Value) (cvs : List Value) : Prop where
 hD : w.heap[D]? = some (.cells #[dv] 29 (0, 0))
 rD : w.ownsRow base 5 1 dv dat.length (u8s dat)
 hL : w.heap[Lb]? = some (.cells #[.slice (some ⟨R, 0, none⟩) n n] 123 (0, 0))
 hR : w.heap[R]? = some (.cells (cells2 Prod.fst Prod.snd (lvs.zip cvs)).toArray 127 (0, 0))
 ln : lvs.length = n
 cn : cvs.length = n
 sn : lens.length = n
 row : ∀ (i : Nat) (v : Value) (l : List Nat), cvs[i]? = some v → lens[i]? = some l → w.ownsRow base 3 1 v l.length (intC l)
 apart : ∀ (i j : Nat) (u v : Value) (g : Nat), cvs[i]? = some u → cvs[j]? = some v → u.ownBlock = some g → v.ownBlock = some g → i = j
theorem SecAt.keep {a b : World} {D Lb R base n : Nat} {lvs : List Value} {dat : List Nat} {lens : List (List Nat)} {dv : Value} {cvs : List Value} (h : SecAt a D Lb R base n lvs dat lens dv cvs) (k : Keeps (fun _ => False) a b) : SecAt b D Lb R base n lvs dat lens dv cvs :=
 ⟨k.heap h.hD (fun e => e), k.row h.rD (fun _ _ e => e), k.heap h.hL (fun e => e), k.heap h.hR (fun e => e), h.ln, h.cn, h.sn, fun i v l h1 h2 => k.row (h.row i v l h1 h2) (fun _ _ e => e), h.apart⟩
theorem add_any (B D Lb R base n i : Nat) (lvs : List Value) (dat l : List Nat) (lens : List (List Nat)) (dv : Value) (cvs : List Value) (ca : Option Addr) (cc : Nat) (bs : List Nat) (w : World) (h : SecAt w D Lb R base n lvs dat lens dv cvs) (hl : lens[i]? = some l)
 (hc : Rd 1 w (.slice ca bs.length cc) bs.length (u8s bs)) (hbl : base ≤ w.heap.size) (hB : B ≤ D ∧ B ≤ R ∧ B ≤ base) (h1 : dat.length + bs.length ≤ 1000000000) (h2 : l.length ≤ 1000000000) :
 Calls Tryz.prog 62 #[.int .i64 (i : Int), .slice ca bs.length cc, .pointer (some ⟨D, 0, none⟩), .pointer (some ⟨Lb, 0, none⟩)] w fun e w' => ∃ dv' cvs', e = .returned (.tuple #[]) ∧ SecAt w' D Lb R base n lvs (dat ++ bs) (lens.set i (l ++ [bs.length])) dv' cvs' ∧ Keeps (Tb (pcS B) w) w w' := by
 have hin : i < n := by have := (List.getElem?_eq_some_iff.1 hl).1; have := h.sn; omega
 obtain ⟨lv, hlv⟩ : ∃ lv, lvs[i]? = some lv := ⟨_, List.getElem?_eq_getElem (by have := h.ln; omega)⟩
 obtain ⟨cv, hcv⟩ : ∃ cv, cvs[i]? = some cv := ⟨_, List.getElem?_eq_getElem (by have := h.cn; omega)⟩
 have hrc := h.row i cv l hcv hl
 obtain ⟨cva, cvc, rfl⟩ := qac hrc
 obtain ⟨da, dc, rfl⟩ := qac h.rD
 have hDR : D ≠ R := qaf h.hD h.hR (by decide)
 have hDL : D ≠ Lb := qaf h.hD h.hL (by decide)
 have hLR : Lb ≠ R := qaf h.hL h.hR (by decide)
 have oD := qbc h.rD h.hD (by decide); have oL := qbc h.rD h.hL (by decide); have oR := qbc h.rD h.hR (by decide)
 have cD := qbc hrc h.hD (by decide); have cL := qbc hrc h.hL (by decide); have cR := qbc hrc h.hR (by decide)
 have hDl := qan h.hD; have hRl := qan h.hR; have hLl := qan h.hL
 have c0 : w.cell? ⟨D, 0, none⟩ = some (.slice da dat.length dc) := by rw [cell_of_row _ _ _ _ _ _ h.hD]; rfl
 have H := Hj h; have HC := Hj hc; have HRC := Hj hrc; have HLV := Hj hlv; have HCV := Hj hcv; have HIL := Hj hl
 have HN := Hj (And.intro hDR (And.intro hDL hLR)); have HO := Hj (And.intro oD (And.intro oL oR)); have HP := Hj (And.intro cD (And.intro cL cR)); have HLT := Hj (And.intro hDl (And.intro hRl hLl)); have HBB := Hj hB
 have hini : (i : Int) < (n : Int) := by omega
 clear h hc hrc hlv hcv hl hDR hDL hLR oD oL oR cD cL cR hDl hRl hLl hB
 go_enter Tryz.func62, Tryz.ntmps62
 go_upto_region 1 with (first
  | (at_builtin
     refine appE elU rfl _ _ rfl base _ _ dat.length bs.length (u8s dat) (u8s bs) rfl rfl H.out.rD HC.out (qdv bs) (by omega) hbl ?_
     intro v6 w6 hown6' hg6' hn6'
     have hg6 : w.grownBy w6 (Value.slice da dat.length dc).ownBlock := hg6'
     have k6 : Keeps (fun k => (Value.slice da dat.length dc).ownBlock = some k) w w6 := (Keeps.refl _ w).grown hg6 (fun k _ e => e)
     have hown6 : w6.ownsRow base 5 1 v6 (dat ++ bs).length (u8s (dat ++ bs)) := by rw [List.length_append]; simpa [u8s] using hown6'
     have hD6 := k6.heap H.out.hD HO.out.1
     have d0 : w6.cell? ⟨D, 0, none⟩ = some (.slice da dat.length dc) := by rw [cell_of_row _ _ _ _ _ _ hD6]; rfl
     have f0 : w6.frozen? ⟨D, 0, none⟩ = false := frozen_of_row _ _ _ _ _ hD6
     obtain ⟨a6, c6, rfl⟩ := qac hown6
     have HO6 := Hj hown6; have HD6 := Hj hD6; have K6 := Hj k6
     clear hown6 hown6' hg6 hg6' hn6' hD6 k6))
 obtain ⟨m6, hm6⟩ : ∃ m6, m6 = (dat ++ bs).length := ⟨_, rfl⟩
 rw [← List.length_append, ← hm6]
 rw [← hm6] at HO6
 obtain ⟨W7, hW7⟩ : ∃ W7, W7 = w6.setCell ⟨D, 0, none⟩ (.slice a6 m6 c6) := ⟨_, rfl⟩
 have kD7 : Keeps (fun k => k = D) w6 W7 := by rw [hW7]; exact (Keeps.refl (fun k => k = D) w6).setCell (p := ⟨D, 0, none⟩) (fun _ => rfl) _
 have hk7 : Keeps (fun k => (Value.slice da dat.length dc).ownBlock = some k ∨ k = D) w W7 := (K6.out.mono (fun _ _ e => .inl e)).trans kD7 (fun _ _ e => .inr e)
 have hL7 := hk7.heap H.out.hL (fun e => e.elim HO.out.2.1 (fun e => HN.out.2.1 e.symm))
 have hR7 := hk7.heap H.out.hR (fun e => e.elim HO.out.2.2 (fun e => HN.out.1 e.symm))
 have hD7 : W7.heap[D]? = some (.cells #[.slice a6 m6 c6] 29 (0, 0)) := by rw [hW7]; have := heap_setCell_same w6 D 0 _ _ (.slice a6 m6 c6) HD6.out; simpa using this
 have hO7 : W7.ownsRow base 5 1 (.slice a6 m6 c6) m6 (u8s (dat ++ bs)) := kD7.row HO6.out (fun g hg e => qbc HO6.out HD6.out (by decide) (by rw [← e]; exact hg))
 have hrows : ∀ (j : Nat) (v : Value) (l : List Nat), cvs[j]? = some v → lens[j]? = some l → W7.ownsRow base 3 1 v l.length (intC l) := fun j v l h1 h2 => hk7.row (H.out.row j v l h1 h2) (fun g hg e => e.elim (fun e => own_ne H.out.rD (H.out.row j v l h1 h2) (by decide) e hg) (fun e => qbc (H.out.row j v l h1 h2) H.out.hD (by decide) (by rw [← e]; exact hg)))
 have hrc7 := hrows i _ l HCV.out HIL.out
 have hzip : (lvs.zip cvs)[i]? = some (lv, .slice cva l.length cvc) := zip_at HLV.out HCV.out
 have hcr : (cells2 Prod.fst Prod.snd (lvs.zip cvs))[i * 2 + 1]? = some (.slice cva l.length cvc) := (qco Prod.fst Prod.snd _ _ _ hzip).2
 have hs7 : base ≤ W7.heap.size := Nat.le_trans hbl hk7.size
 have l1 : W7.cell? ⟨Lb, 0, none⟩ = some (.slice (some ⟨R, 0, none⟩) n n) := by rw [cell_of_row _ _ _ _ _ _ hL7]; rfl
 have r1 : W7.cell? ⟨R, i * 2 + 1, none⟩ = some (.slice cva l.length cvc) := by rw [cell_of_row _ _ _ _ _ _ hR7]; simpa using hcr
 have HCR := Hj hcr; have HZP := Hj hzip
 have HL7 := Hj hL7; have HR7 := Hj hR7; have HD7 := Hj hD7; have HO7 := Hj hO7; have HS7 := Hj hs7; have HRW := Hj hrows; have HRC7 := Hj hrc7; have HK7 := Hj hk7
 have CC : Hid (∀ q, Keeps (fun _ => False) W7 q → q.cell? ⟨Lb, 0, none⟩ = some (.slice (some ⟨R, 0, none⟩) n n) ∧ q.cell? ⟨R, i * 2 + 1, none⟩ = some (.slice cva l.length cvc)) := Hj (fun q hq => ⟨hq.cell l1 (fun e => e), hq.cell r1 (fun e => e)⟩)
 rw [← hW7]
 have K0 : Hid (Keeps (fun _ => False) W7 W7.drew) := Hj (Keeps.refl _ _).drew
 have K1 : Hid (Keeps (fun _ => False) W7 (W7.drew.alloc (.cells #[.int .i64 (bs.length : Int)] 3))) := Hj ((Keeps.refl _ _).drew.alloc _)
 have HRC8 : Hid ((W7.drew.alloc (.cells #[.int .i64 (bs.length : Int)] 3)).ownsRow base 3 1 (.slice cva l.length cvc) l.length (intC l)) := Hj (K1.out.row HRC7.out (fun _ _ e => e))
 clear hW7 kD7 hk7 hL7 hR7 hD7 hO7 hrows hrc7 hzip hcr hs7 HC HD6 HO6 K6 HRC hbl
 have l2 : W7.drew.cell? ⟨Lb, 0, none⟩ = some (.slice (some ⟨R, 0, none⟩) n n) := l1
 have r2 : W7.drew.cell? ⟨R, i * 2 + 1, none⟩ = some (.slice cva l.length cvc) := r1
 have l3 : (W7.alloc (.cells #[.int .i64 (bs.length : Int)] 3)).cell? ⟨Lb, 0, none⟩ = some (.slice (some ⟨R, 0, none⟩) n n) := (CC.out _ K1.out).1
 have r3 : (W7.alloc (.cells #[.int .i64 (bs.length : Int)] 3)).cell? ⟨R, i * 2 + 1, none⟩ = some (.slice cva l.length cvc) := (CC.out _ K1.out).2
 go_region_law (first
  | (refine sappE elI rfl _ _ rfl base _ _ l.length 1 (intC l) [.int .i64 (bs.length : Int)] rfl rfl HRC8.out (rd_new _ 1 1 [.int .i64 (bs.length : Int)] 3 1 rfl (Nat.le_refl _)) (by simp [Value.oneCell']) (by omega) (by have := HS7.out; simp; omega) ?_
     intro v8 w8 hown8 hg8' hn8'
     have hg8 : (W7.drew.alloc (.cells #[.int .i64 (bs.length : Int)] 3)).grownBy w8 (Value.slice cva l.length cvc).ownBlock := hg8'
     have hn8 : ∀ g, v8.ownBlock = some g → (Value.slice cva l.length cvc).ownBlock = some g ∨ (W7.drew.alloc (.cells #[.int .i64 (bs.length : Int)] 3)).heap.size ≤ g := hn8'
     have K8 := Hj ((K1.out.mono (S' := fun k => (Value.slice cva l.length cvc).ownBlock = some k) (fun _ _ e => e.elim)).grown hg8 (fun k _ e => e))
     have hR8 := K8.out.heap HR7.out HP.out.2.2
     have q0 : w8.cell? ⟨Lb, 0, none⟩ = some (.slice (some ⟨R, 0, none⟩) n n) := K8.out.cell l1 HP.out.2.1
     have q1 : w8.cell? ⟨R, i * 2 + 1, none⟩ = some (.slice cva l.length cvc) := K8.out.cell r1 HP.out.2.2
     have q2 : w8.frozen? ⟨R, i * 2 + 1, none⟩ = false := frozen_of_row _ _ _ _ _ hR8
     obtain ⟨a8, c8, rfl⟩ := qac hown8
     have HO8 := Hj hown8; have HR8 := Hj hR8; have HN8 := Hj hn8
     clear hg8' hown8 hg8 hn8 hn8' hR8))
 all_goals
  go_end0
  have ks : Keeps (fun k => k = R) w8 (w8.setCell ⟨R, i * 2 + 1, none⟩ (.slice a8 (l.length + 1) c8)) := (Keeps.refl (fun k => k = R) w8).setCell (p := ⟨R, i * 2 + 1, none⟩) (fun _ => rfl) _
  have hW8 : ∀ g, (Value.slice a8 (l.length + 1) c8).ownBlock = some g → (Value.slice cva l.length cvc).ownBlock = some g ∨ W7.heap.size ≤ g := fun g hg => (HN8.out g hg).imp id (fun e => by simp at e; omega)
  have hrlt : ∀ (j : Nat) (v : Value) (l : List Nat) (g : Nat), cvs[j]? = some v → lens[j]? = some l → v.ownBlock = some g → g < W7.heap.size := fun j v l g h1 h2 hg => ((HRW.out j v l h1 h2).lt g hg).2
  have hlen : ∀ (j : Nat) (v : Value), cvs[j]? = some v → ∃ l, lens[j]? = some l := fun j v h1 => ⟨_, List.getElem?_eq_getElem (by have := (List.getElem?_eq_some_iff.1 h1).1; have := H.out.cn; have := H.out.sn; omega)⟩
  have hic : i < cvs.length := (List.getElem?_eq_some_iff.1 HCV.out).1
  have hil : i < lens.length := (List.getElem?_eq_some_iff.1 HIL.out).1
  have hset : (cells2 Prod.fst Prod.snd (lvs.zip cvs)).toArray.setIfInBounds (i * 2 + 1) (.slice a8 (l.length + 1) c8) = (cells2 Prod.fst Prod.snd (lvs.zip (cvs.set i (.slice a8 (l.length + 1) c8)))).toArray := by
   rw [zip_set2 HLV.out, ← qjg HZP.out]; simp
  refine ⟨.slice a6 m6 c6, cvs.set i (.slice a8 (l.length + 1) c8), rfl, ⟨ks.heap (K8.out.heap HD7.out HP.out.1) HN.out.1, ?_, ks.heap (K8.out.heap HL7.out HP.out.2.1) HN.out.2.2, ?_, H.out.ln, by rw [List.length_set]; exact H.out.cn, by rw [List.length_set]; exact H.out.sn, fun j v q hv hq => ?_, fun j k u v g hu hv hug hvg => ?_⟩, ?_⟩
  · rw [← hm6]
    exact ks.row (K8.out.row HO7.out (fun g hg e => own_ne HRC7.out HO7.out (by decide) e hg)) (fun g hg e => qbc HO7.out HR7.out (by decide) (by rw [← e]; exact hg))
  · have := heap_setCell_same w8 R (i * 2 + 1) _ _ (.slice a8 (l.length + 1) c8) HR8.out
    rw [hset] at this
    exact this
  · by_cases hj : i = j
    · subst hj
      rw [List.getElem?_set_self hic] at hv
      rw [List.getElem?_set_self hil] at hq
      obtain rfl := Option.some.inj hv
      obtain rfl := Option.some.inj hq
      have := ks.row HO8.out (fun g hg e => qbc HO8.out HR8.out (by decide) (by rw [← e]; exact hg))
      rw [List.length_append, List.length_singleton]
      simpa [intC] using this
    · rw [List.getElem?_set_ne hj] at hv hq
      have hr := HRW.out j v q hv hq
      exact ks.row (K8.out.row hr (fun g hg e => hj (H.out.apart i j _ v g HCV.out hv e hg))) (fun g hg e => qbc hr HR7.out (by decide) (by rw [← e]; exact hg))
  · have back : ∀ (k : Nat) (z : Value), (cvs.set i (.slice a8 (l.length + 1) c8))[k]? = some z → z.ownBlock = some g → (k = i ∧ z = .slice a8 (l.length + 1) c8) ∨ (k ≠ i ∧ cvs[k]? = some z ∧ g < W7.heap.size) := fun k z hz hg => by
     by_cases hk : i = k
     · subst hk
       rw [List.getElem?_set_self hic] at hz
       exact .inl ⟨rfl, (Option.some.inj hz).symm⟩
     · rw [List.getElem?_set_ne hk] at hz
       obtain ⟨q, hq⟩ := hlen k z hz
       exact .inr ⟨fun e => hk e.symm, hz, hrlt k z q g hz hq hg⟩
    rcases back j u hu hug with ⟨rj, rfl⟩ | ⟨nj, hj, hgj⟩ <;> rcases back k v hv hvg with ⟨rk, rfl⟩ | ⟨nk, hk, hgk⟩
    · exact rj.trans rk.symm
    · rcases hW8 g hug with e | e
      · exact absurd (H.out.apart i k _ v g HCV.out hk e hvg) (fun e => nk e.symm)
      · omega
    · rcases hW8 g hvg with e | e
      · exact absurd (H.out.apart j i u _ g hj HCV.out hug e) nj
      · omega
    · exact H.out.apart j k u v g hj hk hug hvg
  · have a := HK7.out.mono (S' := fun k => (Value.slice da dat.length dc).ownBlock = some k ∨ k = D ∨ (Value.slice cva l.length cvc).ownBlock = some k ∨ k = R) (fun k _ e => e.elim .inl (fun e => .inr (.inl e)))
    have b := a.trans K8.out (fun k _ e => .inr (.inr (.inl e)))
    refine (b.trans ks (fun k _ e => .inr (.inr (.inr e)))).mono (fun k _ e => ?_)
    rcases e with e | rfl | e | rfl
    · obtain ⟨c, hc⟩ := qak H.out.rD e
      exact ⟨c, _, _, hc, Nat.le_trans HBB.out.2.2 (H.out.rD.lt k e).1, .inr (.inr (.inl rfl))⟩
    · exact ⟨_, _, _, H.out.hD, HBB.out.1, .inl rfl⟩
    · have hr := H.out.row i _ l HCV.out HIL.out
      obtain ⟨c, hc⟩ := qak hr e
      exact ⟨c, _, _, hc, Nat.le_trans HBB.out.2.2 (hr.lt k e).1, .inr (.inr (.inr rfl))⟩
    · exact ⟨_, _, _, H.out.hR, HBB.out.2.1, .inr (.inl rfl)⟩
end
section
set_option maxHeartbeats 2000000
open Go.RowKit Go.Shelf
abbrev Chk := (Nat × List Nat) × (Option Addr × Nat)
abbrev encChk (x : Chk) : Array Value := #[.int .i64 (x.1.1 : Int), .slice x.2.1 x.1.2.length x.2.2]
def chI (k : Nat) (l : List Smp) (m : Nat) : List (Nat × List Nat) := (List.range m).map fun j => (k, chunkC (partS l j))
def chO (b : List Ser) : List (Nat × List Nat) := b.zipIdx.flatMap fun p => chI p.2 p.1.2 (nCh p.1.2.length)
theorem qhw (k : Nat) (l : List Smp) (m : Nat) : chI k l (m + 1) = chI k l m ++ [(k, chunkC (partS l m))] := by simp [chI, List.range_succ]
theorem chO_succ (b : List Ser) {k : Nat} {x : Ser} (h : b[k]? = some x) : chO (b.take (k + 1)) = chO (b.take k) ++ chI k x.2 (nCh x.2.length) := by
 have hk : (b.take k).length = k := by rw [List.length_take]; have := (List.getElem?_eq_some_iff.1 h).1; omega
 rw [List.take_add_one, h]
 simp [chO, List.zipIdx_append, hk]
theorem chO_pre (b : List Ser) (k : Nat) : chO (b.take k) <+: chO b := by
 refine ⟨((b.drop k).zipIdx (b.take k).length).flatMap fun p => chI p.2 p.1.2 (nCh p.1.2.length), ?_⟩
 unfold chO
 rw [← List.flatMap_append]
 congr 1
 conv => rhs; rw [← List.take_append_drop k b, List.zipIdx_append]
 simp
theorem chI_pre (k : Nat) (l : List Smp) (m d : Nat) : chI k l m <+: chI k l (m + d) := by
 induction d with
 | zero => exact List.prefix_refl _
 | succ d ih => exact ih.trans ⟨_, (qhw k l (m + d)).symm⟩
theorem chO_part (b : List Ser) {k : Nat} {x : Ser} (h : b[k]? = some x) {m : Nat} (hm : m ≤ nCh x.2.length) : chO (b.take k) ++ chI k x.2 m <+: chO b := by
 refine List.IsPrefix.trans ?_ (chO_pre b (k + 1))
 rw [chO_succ b h]
 obtain ⟨d, hd⟩ := Nat.le.dest hm
 rw [← hd]
 exact List.prefix_append_right_inj _ |>.2 (chI_pre k x.2 m d)
def QxW (W : World) (x : Chk) (W1 : World) : Prop := Rd 1 W1 (.slice x.2.1 x.1.2.length x.2.2) x.1.2.length (u8s x.1.2) ∧ ∀ g, (Value.slice x.2.1 x.1.2.length x.2.2).ownBlock = some g → W.heap.size ≤ g
theorem keeps_low {pc : Nat → TypeId → Prop} {q : Nat} {A B : World} (hpc : ∀ k t, pc k t → q ≤ k) (h : Keeps (Ti pc q A) A B) : Keeps (fun k => q ≤ k) A B := h.mono (fun k _ e => e.elim (fun ⟨_, t, _, _, hp⟩ => hpc k t hp) (fun e => e.1))
theorem pcS_low (B k : Nat) (t : TypeId) (h : pcS B k t) : B ≤ k := h.1
structure PartsAt (w : World) (base : Nat) (v : Value) (b2 : Nat) (l : List Smp) : Prop where
 row : w.ownsRow base 22 1 v (nCh l.length) (valC b2 l.length (List.range (nCh l.length)))
 rd : ∀ j, j < nCh l.length → RdS w (cVal b2 l.length j) (partS l j)
 blk : ∃ cur, w.heap[b2]? = some (.cells cur 28 (0, 0))
theorem PartsAt.keeps {S : Nat → Prop} {a b : World} {base b2 : Nat} {v : Value} {l : List Smp} (h : PartsAt a base v b2 l) (k : Keeps S a b) (hS : ∀ c t fr g, a.heap[g]? = some (.cells c t fr) → (t = 22 ∨ t = 28) → ¬ S g) : PartsAt b base v b2 l := by
 obtain ⟨cur, hb⟩ := h.blk
 exact ⟨k.row h.row (fun g hg => by obtain ⟨c, hc⟩ := qak h.row hg; exact hS _ _ _ _ hc (.inl rfl)), fun j hj => Rd.keeps (h.rd j hj) k (fun g hg => by
  simp only [Value.ownBlock, Option.some.injEq] at hg
  subst hg
  exact hS _ _ _ _ hb (.inr rfl)), ⟨cur, k.heap hb (hS _ _ _ _ hb (.inr rfl))⟩⟩
theorem PartsAt.ti {B q : Nat} {a b : World} {base b2 : Nat} {v : Value} {l : List Smp} (h : PartsAt a base v b2 l) (k : Keeps (Ti (pcS B) q a) a b) : PartsAt b base v b2 l :=
 h.keeps k (fun _ _ _ _ hg ht => not_ti hg (fun e => by rcases ht with rfl | rfl <;> rcases e.2 with e | e | e | e <;> cases e))
theorem FitS.part {l : List Smp} (h : FitS l) (j : Nat) : FitS (partS l j) := fun x hx => h x (List.mem_of_mem_drop (List.mem_of_mem_take hx))
theorem chsT_at (w0 W : World) (Bx : Nat) (ba : Option Addr) (bc : Nat) (hs : List Hdr) (b : List Ser) (hc : W.cell? ⟨Bx, 0, none⟩ = some (.slice ba b.length bc)) (h : RdB w0 (.slice ba b.length bc) hs b) (hk : Keeps (fun k => w0.heap.size ≤ k) w0 W)
 (hf : ∀ x ∈ b, x.2 ≠ [] ∧ x.2.length ≤ 1000000000 ∧ FitS x.2) (hl : b.length ≤ 1000000000) (hT : TabZ w0) (hF : TabF w0) :
 SeqT Tryz.prog 118 #[.pointer (some ⟨Bx, 0, none⟩)] encChk (pcS w0.heap.size) w0.heap.size (fun xs => xs.map (·.1) = chO b) (fun pre => pre.map (·.1) <+: chO b) (QxW W) W := by
 intro L J Jx hJ hJx hY h0
 have HY := Hj hY; have HJ := Hj hJ; have H0 := Hj h0; have HB := Hj h; have HF := Hj hf; have HTZ := Hj hT; have HTF := Hj hF; have HK := Hj hk
 clear hY hJ hJx h0 h hf hT hF hk
 refine callsIn_of_wp Tryz.func118 rfl trivial ?_ rfl
 simp only [Tryz.ntmps118, List.size_toArray, List.length_cons, List.length_nil, Nat.reduceAdd, Nat.reduceSub, Array.replicate_succ, Array.replicate_zero, List.push_toArray, List.append_toArray, List.nil_append, List.cons_append]
 gi_wp2
 clear hc
 gi_loopw [11] (fun i wr => ∃ (k : Nat) (xs : List Chk), i = .int .i64 (k : Int) ∧ k ≤ b.length ∧ Hid (xs.map (·.1) = chO (b.take k)) ∧ Hid (J xs wr) ∧ Hid (Keeps (fun q => w0.heap.size ≤ q) w0 wr) ∧ Hid (W.heap.size ≤ wr.heap.size)) (fun i _ => b.length - (intOf i).toNat)
 case atStart => exact ⟨0, [], rfl, Nat.zero_le _, Hj rfl, H0, HK, Hj (Nat.le_refl _)⟩
 case round =>
  clear H0 HK
  obtain ⟨k, xs, rfl, hkl, HX, HJ0, HK, HW⟩ := hrel
  by_cases hlt : k < b.length
  · have hlti : (k : Int) < (b.length : Int) := by omega
    obtain ⟨x, hx⟩ : ∃ x, b[k]? = some x := ⟨_, List.getElem?_eq_getElem hlt⟩
    have hhl : hs.length = b.length := HB.out.1
    obtain ⟨hd, hhd⟩ : ∃ hd, hs[k]? = some hd := ⟨_, List.getElem?_eq_getElem (by omega)⟩
    have hBr := HB.out.below (HK.out.below (Nat.le_refl _) (fun _ _ e => e))
    have s1 := hBr.2.2 k hd x hhd hx
    obtain ⟨b0, o0, rfl, c1, c2⟩ := RdH.at (by rw [hhl]; exact hBr.2.1) hhd
    obtain ⟨la, ln, lc, sa, sn, sc⟩ := hd
    have e2 : sn = x.2.length := s1.lens.2
    subst e2
    have hrd : RdS wr (.slice sa x.2.length sc) x.2 := s1.2
    obtain ⟨f1, f2, f3⟩ := HF.out x (List.mem_of_getElem? hx)
    obtain ⟨labs, smps⟩ := x
    simp only at hrd c1 c2 f1 f2 f3
    obtain ⟨W1, hW1⟩ : ∃ W1, W1 = wr.alloc (.cells #[.slice la ln lc, .slice sa smps.length sc] 97) := ⟨_, rfl⟩
    have hr1 : W1.heap[wr.heap.size]? = some (.cells #[.slice la ln lc, .slice sa smps.length sc] 97 (0, 0)) := by rw [hW1]; exact heap_alloc_new wr _
    have hk1 : Keeps (fun _ => False) wr W1 := by rw [hW1]; exact (Keeps.refl _ _).alloc _
    have d2 : W1.cell? ⟨wr.heap.size, 1, none⟩ = some (.slice sa smps.length sc) := by rw [cell_of_row _ _ _ _ _ _ hr1]; rfl
    have HSP := Hj (split_any sa sc smps W1 (Rd.keeps hrd hk1 (fun _ _ e => e)) f1 f2)
    have HW1 := Hj hW1; have HK1 := Hj hk1; have HXK := Hj hx; have HFS := Hj f3
    have hnc : nCh smps.length ≤ 1000000000 := by unfold nCh; omega
    clear hW1 hk1 hr1 hBr s1 hrd hx hhd hhl f1 f3
    gi_upto_region 3 with fail
    rw [← HW1.out]
    clear c1 c2
    gi_wp2
    refine ⟨trivial, rfl, (callsIn_wide.2 HSP.out).mono ?_⟩
    rintro e w2 ⟨v2, b2, rfl, hr2, HP2, ⟨cur2, hb2⟩, hk2⟩
    have HPA : Hid (PartsAt w2 W1.heap.size v2 b2 smps) := Hj ⟨hr2, HP2.out, ⟨cur2, hb2⟩⟩
    obtain ⟨a2, c2, rfl⟩ := qac hr2
    have HK2 : Hid (Keeps (fun q => w0.heap.size ≤ q) w0 w2) := Hj ((HK.out.trans HK1.out (fun _ _ e => e.elim)).trans hk2 (fun _ _ e => e.elim))
    have HJ2 := Hj (HJ.out _ _ _ HJ0.out (HK1.out.trans hk2 (fun _ _ e => e)))
    have HW2 : Hid (W.heap.size ≤ w2.heap.size) := Hj (by have := HW.out; have := HK1.out.size; have := hk2.size; omega)
    have HEL : Hid (xs.map (·.1) = chO (b.take k) ++ chI k smps 0) := Hj (by rw [HX.out]; simp [chI])
    obtain ⟨m, hm⟩ : ∃ m, m = nCh smps.length := ⟨_, rfl⟩
    rw [← hm] at hnc ⊢
    have HM := Hj hm
    clear hr2 HP2 hb2 hk2 d2 HK HJ0 HW hm HSP
    gi_wp2
    gi_loopw [20] (fun i wr => ∃ (j : Nat) (xs : List Chk), i = .int .i64 (j : Int) ∧ j ≤ m ∧ Hid (xs.map (·.1) = chO (b.take k) ++ chI k smps j) ∧ Hid (J xs wr) ∧ Hid (Keeps (fun q => w0.heap.size ≤ q) w0 wr) ∧ Hid (W.heap.size ≤ wr.heap.size) ∧ Hid (PartsAt wr W1.heap.size (.slice a2 m c2) b2 smps)) (fun i _ => m - (intOf i).toNat)
    case atStart => exact ⟨0, xs, rfl, Nat.zero_le _, HEL, HJ2, HK2, HW2, by rw [HM.out]; exact HPA⟩
    case round =>
     clear HJ2 HK2 HW2 HPA HEL
     obtain ⟨j, xs, rfl, hjm, HX, HJ0, HK, HW, HPA⟩ := hrel
     by_cases hlt2 : j < m
     · have hlti2 : (j : Int) < (m : Int) := by omega
       have hjn : j < nCh smps.length := by rw [← HM.out]; exact hlt2
       have hro := HPA.out.row
       rw [← HM.out] at hro
       obtain ⟨b5, o5, rfl, hc5⟩ := Rd.at (rd_row hro) hlt2
       have x5 : wr.cell? ⟨b5, o5 + j, none⟩ = some (.slice (some ⟨b2, j * 120 * 2, none⟩) (cLen smps.length j) (cLen smps.length j)) := by
        have := hc5 0 (cVal b2 smps.length j) (by simp [valC, hlt2])
        simpa using this
       have hpl := qdk smps j
       have h1 : 1 ≤ (partS smps j).length := by rw [hpl]; unfold cLen; unfold nCh at hjn; omega
       have h2 : (partS smps j).length ≤ 120 := by rw [hpl]; unfold cLen; omega
       have HEN := Hj (cencode_any _ (partS smps j) wr (HPA.out.rd j hjn) h1 h2 (HFS.out.part j) (HTZ.out.keeps HK.out (fun e => by have := HTZ.out.pos; omega)) (HTF.out.keeps HK.out (fun e => by have := HTF.out.pos; omega)))
       have HSP : Hid (chO (b.take k) ++ chI k smps (j + 1) <+: chO b) := Hj (chO_part b HXK.out (x := (labs, smps)) (by simp only; rw [← HM.out]; omega))
       obtain ⟨cl, hcl⟩ : ∃ cl, cl = cLen smps.length j := ⟨_, rfl⟩
       rw [← hcl] at x5
       simp only [cVal, ← hcl] at HEN
       clear hc5 hro hpl h1 h2 hjn hcl
       gi_wp2
       refine ⟨trivial, rfl, (callsIn_wide.2 HEN.out).mono ?_⟩
       rintro e w3 ⟨v3, rfl, hr3, hk3⟩
       obtain ⟨a3, c3, rfl⟩ := qac hr3
       have hsp : (xs ++ [((k, chunkC (partS smps j)), (a3, c3))]).map (·.1) <+: chO b := by
        have := HSP.out
        rw [qhw, ← List.append_assoc, ← HX.out] at this
        simpa using this
       obtain ⟨fn, tmps, assign, body, hyy, hR⟩ := HY.out xs ((k, chunkC (partS smps j)), (a3, c3)) w3 (HJ.out _ _ _ HJ0.out hk3) hsp ⟨rd_row hr3, fun g hg => by have := (hr3.lt g hg).1; have := HW.out; omega⟩
       simp only [encChk] at hyy hR
       have HEL : Hid ((xs ++ [((k, chunkC (partS smps j)), (a3, c3))]).map (·.1) = chO (b.take k) ++ chI k smps (j + 1)) := Hj (by rw [List.map_append, HX.out, qhw, List.append_assoc]; rfl)
       have HSP2 := Hj hsp
       have HPA3 : Hid (PartsAt w3 W1.heap.size (.slice (some ⟨b5, o5, none⟩) m c2) b2 smps) := Hj (HPA.out.keeps hk3 (fun _ _ _ _ _ _ e => e))
       have HK3 : Hid (Keeps (fun q => w0.heap.size ≤ q) w0 w3) := Hj (HK.out.trans hk3 (fun _ _ e => e.elim))
       have HW3 : Hid (W.heap.size ≤ w3.heap.size) := Hj (Nat.le_trans HW.out hk3.size)
       obtain ⟨nb, hnb⟩ : ∃ nb, nb = (chunkC (partS smps j)).length := ⟨_, rfl⟩
       rw [← hnb] at hyy ⊢
       clear hr3 hk3 hsp x5 HX HJ0 HK HW HPA HSP HEN hnb
       gi_wp2
       refine ⟨rfl, hR.mono ?_⟩
       rintro e W3 (⟨rfl, hJ3, hk3⟩ | ⟨rfl, hJx3, hk3⟩)
       · have HJ3 := Hj hJ3; have HT3 := Hj hk3
         clear hJ3 hk3 hyy hR
         gi_wp2
         exact ⟨⟨j + 1, _, by simp, by omega, HEL, HJ3, Hj (HK3.out.trans (keeps_low (pcS_low _) HT3.out) (fun _ _ e => e)), Hj (Nat.le_trans HW3.out HT3.out.size), Hj (HPA3.out.ti HT3.out)⟩, by simp [intOf]; omega⟩
       · have HJx3 := Hj hJx3
         clear hJx3 hk3 hyy hR
         gi_wp2
         refine bodyPost_ret (results_none rfl _ _ _) rfl ?_
         exact ⟨⟨_, rfl⟩, .inr ⟨_, HSP2.out, HJx3.out⟩⟩
     · obtain rfl : j = m := by omega
       gi_wp2
       refine ⟨⟨k + 1, xs, by simp, by omega, Hj ?_, HJ0, HK, HW⟩, by simp [intOf]; omega⟩
       rw [HX.out, chO_succ b HXK.out, HM.out]
  · obtain rfl : k = b.length := by omega
    gi_wp2
    go_end0
    rw [List.take_length] at HX
    exact ⟨⟨_, rfl⟩, .inl ⟨_, HX.out, HJ0.out⟩⟩
end
section
set_option maxHeartbeats 4000000
set_option maxRecDepth 100000
open Go.RowKit
def qhy (v : Value) (q : World) (s0 s1 s2 s3 : List Nat) : Prop :=
 Calls Tryz.prog 38 #[v] q fun e w' => ∃ v0 v1 v2 v3 i0 i1 i2 i3 i4, e = .returned (.tuple #[.agg #[v0, v1, v2, v3], .agg #[.int .i64 i0, .int .i64 i1, .int .i64 i2, .int .i64 i3, .int .i64 i4], .int .i64 0]) ∧ Holds w' v0 (u8s s0) ∧ Holds w' v1 (u8s s1) ∧ Holds w' v2 (u8s s2) ∧ Holds w' v3 (u8s s3) ∧ Keeps (fun _ => False) q w'
theorem qbu {w : World} {v : Value} {xs : List Value} (h : Holds w v xs) : ∃ a n c, v = .slice a n c := by obtain ⟨d, p, h, _⟩ := h; exact ⟨d, _, p, h⟩
theorem holds_past {w w' : World} {P : Nat} {v : Value} {s : List Nat} {cs : Array Value} {t : TypeId} (h : Holds w v (u8s s)) (hP : w.heap[P]? = some (.cells cs t (0, 0))) (hcs : ∀ (j : Nat) (u : Value), cs[j]? = some u → ∀ k z, u ≠ .int k z) (k : Keeps (fun k => k = P) w w') : Holds w' v (u8s s) := by
 obtain ⟨ad, cap, hv, hc, hx⟩ := h
 rcases hx with hx | ⟨b, off, hab, hcell⟩
 · exact ⟨ad, cap, hv, hc, .inl hx⟩
 · by_cases hb : b = P
   · cases s with
     | nil => exact ⟨ad, cap, hv, hc, .inl (by simp [u8s])⟩
     | cons c r =>
       exfalso
       subst hb
       have := hcell 0 (.int .u8 (c : Int)) (by simp [u8s])
       rw [cell_of_row _ _ _ _ _ _ hP] at this
       exact hcs _ _ this _ _ rfl
   · exact ⟨ad, cap, hv, hc, .inr ⟨b, off, hab, fun j u hj => k.cell (hcell j u hj) hb⟩⟩
theorem slices4 (c0 c1 c2 c3 : Option Addr × Nat × Nat) : ∀ (j : Nat) (u : Value), (#[Value.slice c0.1 c0.2.1 c0.2.2, .slice c1.1 c1.2.1 c1.2.2, .slice c2.1 c2.2.1 c2.2.2, .slice c3.1 c3.2.1 c3.2.2])[j]? = some u → ∀ k z, u ≠ .int k z := fun j u hj k z e => by
 subst e
 rcases j with _ | _ | _ | _ | j <;> simp at hj
def qcl (v : Value) (q : World) : Prop :=
 Calls Tryz.prog 38 #[v] q fun e w' => e = .returned (.tuple #[.agg #[.slice none 0 0, .slice none 0 0, .slice none 0 0, .slice none 0 0], .agg #[.int .i64 0, .int .i64 0, .int .i64 0, .int .i64 0, .int .i64 0], .int .i64 3]) ∧ Keeps (fun _ => False) q w'
theorem lparse_bad (v : Value) (w : World) (hp : ∀ q, Keeps (fun _ => False) w q → qcl v q) :
 Calls Tryz.prog 34 #[v] w fun e w' => e = .returned (.tuple #[.agg #[.slice none 0 0, .slice none 0 0, .slice none 0 0, .slice none 0 0], .int .i64 3]) ∧ Keeps (fun _ => False) w w' := by
 obtain ⟨W0, hW0⟩ : ∃ W0, W0 = w.alloc (.cells #[.slice none 0 0, .slice none 0 0, .slice none 0 0, .slice none 0 0] 75) := ⟨_, rfl⟩
 have hk0 : Keeps (fun _ => False) w W0 := by rw [hW0]; exact (Keeps.refl _ _).alloc _
 have hr0 : W0.heap[w.heap.size]? = some (.cells #[.slice none 0 0, .slice none 0 0, .slice none 0 0, .slice none 0 0] 75 (0, 0)) := by rw [hW0]; exact heap_alloc_new w _
 have HP := Hj (show Calls Tryz.prog 38 #[v] W0 _ from hp W0 hk0)
 have HW0 := Hj hW0; have HR0 := Hj hr0; have HK0 := Hj hk0
 clear hW0 hr0 hk0 hp
 go_enter Tryz.func34, Tryz.ntmps34
 go_wp2_with (first
  | (go_at_call 38
     rw [← HW0.out]
     refine HP.out.mono ?_
     rintro e w1 ⟨rfl, k1⟩
     have K1 := Hj k1
     have HR1 := Hj (k1.heap HR0.out (fun e => e))
     clear k1)
  | (refine wpList_load_row rfl 75 _ rfl w1.heap.size rfl 75 #[.slice none 0 0, .slice none 0 0, .slice none 0 0, .slice none 0 0] (0, 0) _ (heap_alloc _ (heap_alloc_new w1 _)) Tryz.underlying75 rfl (by kernel_rfl) ?_)
  | (refine wpList_store_row rfl 75 _ _ rfl w.heap.size #[.slice none 0 0, .slice none 0 0, .slice none 0 0, .slice none 0 0] rfl rfl 75 _ (heap_alloc _ (heap_alloc _ HR1.out)) (by kernel_rfl) rfl (by simp [Value.oneCell']) ?_))
 obtain ⟨W2, hW2⟩ : ∃ W2, W2 = (w1.alloc (.cells #[.slice none 0 0, .slice none 0 0, .slice none 0 0, .slice none 0 0] 75)).alloc (.cells #[.int .i64 0, .int .i64 0, .int .i64 0, .int .i64 0, .int .i64 0] 90) := ⟨_, rfl⟩
 have k2 : Keeps (fun _ => False) w1 W2 := by rw [hW2]; exact ((Keeps.refl _ _).alloc _).alloc _
 rw [← hW2]
 obtain ⟨W3, hW3⟩ : ∃ W3, W3 = W2.setRow w.heap.size #[.slice none 0 0, .slice none 0 0, .slice none 0 0, .slice none 0 0] := ⟨_, rfl⟩
 have k3 : Keeps (fun k => k = w.heap.size) W2 W3 := by rw [hW3]; exact qax (Keeps.refl _ _) _ _ (fun _ => rfl)
 have r3 : W3.heap[w.heap.size]? = some (.cells #[.slice none 0 0, .slice none 0 0, .slice none 0 0, .slice none 0 0] 75 (0, 0)) := by rw [hW3]; exact setRow_heap _ _ _ _ _ _ (k2.heap HR1.out (fun e => e))
 rw [← hW3]
 refine bodyPost_ret (qcy Tryz.results34 _ _ w.heap.size 75 _ (0, 0) _ rfl r3 Tryz.underlying75 rfl (by kernel_rfl)) rfl ?_
 exact ⟨rfl, ((HK0.out.trans K1.out (fun _ _ e => e)).trans k2 (fun _ _ e => e)).trans k3 (fun k hk e => by omega)⟩
theorem lparse_ok (v : Value) (s0 s1 s2 s3 : List Nat) (w : World) (hp : ∀ q, Keeps (fun _ => False) w q → qhy v q s0 s1 s2 s3) :
 Calls Tryz.prog 34 #[v] w fun e w' => ∃ v0 v1 v2 v3, e = .returned (.tuple #[.agg #[v0, v1, v2, v3], .int .i64 0]) ∧ Holds w' v0 (u8s s0) ∧ Holds w' v1 (u8s s1) ∧ Holds w' v2 (u8s s2) ∧ Holds w' v3 (u8s s3) ∧ Keeps (fun _ => False) w w' := by
 obtain ⟨W0, hW0⟩ : ∃ W0, W0 = w.alloc (.cells #[.slice none 0 0, .slice none 0 0, .slice none 0 0, .slice none 0 0] 75) := ⟨_, rfl⟩
 have hk0 : Keeps (fun _ => False) w W0 := by rw [hW0]; exact (Keeps.refl _ _).alloc _
 have hr0 : W0.heap[w.heap.size]? = some (.cells #[.slice none 0 0, .slice none 0 0, .slice none 0 0, .slice none 0 0] 75 (0, 0)) := by rw [hW0]; exact heap_alloc_new w _
 have HP := Hj (show Calls Tryz.prog 38 #[v] W0 _ from hp W0 hk0)
 have HW0 := Hj hW0; have HR0 := Hj hr0; have HK0 := Hj hk0
 clear hW0 hr0 hk0 hp
 go_enter Tryz.func34, Tryz.ntmps34
 go_wp2_with (first
  | (go_at_call 38
     rw [← HW0.out]
     refine HP.out.mono ?_
     rintro e w1 ⟨v0, v1, v2, v3, i0, i1, i2, i3, i4, rfl, h0, h1, h2, h3, k1⟩
     obtain ⟨a0, n0, c0, rfl⟩ := qbu h0; obtain ⟨a1, n1, c1, rfl⟩ := qbu h1; obtain ⟨a2, n2, c2, rfl⟩ := qbu h2; obtain ⟨a3, n3, c3, rfl⟩ := qbu h3
     have H0 := Hj h0; have H1 := Hj h1; have H2 := Hj h2; have H3 := Hj h3; have K1 := Hj k1
     have hr1 := k1.heap HR0.out (fun e => e)
     have HR1 := Hj hr1
     have hb1 := heap_alloc_new w1 (.cells #[.slice none 0 0, .slice none 0 0, .slice none 0 0, .slice none 0 0] 75)
     have HB1 := Hj hb1
     have HL1 := Hj (qan hr1)
     clear h0 h1 h2 h3 k1 hr1 hb1)
  | (refine wpList_load_row rfl 75 _ rfl w1.heap.size rfl 75 #[.slice a0 n0 c0, .slice a1 n1 c1, .slice a2 n2 c2, .slice a3 n3 c3] (0, 0) _ (heap_alloc _ (heap_alloc_new w1 _)) Tryz.underlying75 rfl (by kernel_rfl) ?_)
  | (refine wpList_store_row rfl 75 _ _ rfl w.heap.size #[.slice a0 n0 c0, .slice a1 n1 c1, .slice a2 n2 c2, .slice a3 n3 c3] rfl rfl 75 _ (heap_alloc _ (heap_alloc _ HR1.out)) (by kernel_rfl) rfl (by simp [Value.oneCell']) ?_))
 obtain ⟨W2, hW2⟩ : ∃ W2, W2 = (w1.alloc (.cells #[.slice a0 n0 c0, .slice a1 n1 c1, .slice a2 n2 c2, .slice a3 n3 c3] 75)).alloc (.cells #[.int .i64 i0, .int .i64 i1, .int .i64 i2, .int .i64 i3, .int .i64 i4] 90) := ⟨_, rfl⟩
 have k2 : Keeps (fun _ => False) w1 W2 := by rw [hW2]; exact ((Keeps.refl _ _).alloc _).alloc _
 rw [← hW2]
 obtain ⟨W3, hW3⟩ : ∃ W3, W3 = W2.setRow w.heap.size #[.slice a0 n0 c0, .slice a1 n1 c1, .slice a2 n2 c2, .slice a3 n3 c3] := ⟨_, rfl⟩
 have k3 : Keeps (fun k => k = w.heap.size) W2 W3 := by rw [hW3]; exact qax (Keeps.refl _ _) _ _ (fun _ => rfl)
 have r3 : W3.heap[w.heap.size]? = some (.cells #[.slice a0 n0 c0, .slice a1 n1 c1, .slice a2 n2 c2, .slice a3 n3 c3] 75 (0, 0)) := by rw [hW3]; exact setRow_heap _ _ _ _ _ _ (k2.heap HR1.out (fun e => e))
 rw [← hW3]
 refine bodyPost_ret (qcy Tryz.results34 _ _ w.heap.size 75 _ (0, 0) _ rfl r3 Tryz.underlying75 rfl (by kernel_rfl)) rfl ?_
 have hh : ∀ v s, Holds w1 v (u8s s) → Holds W3 v (u8s s) := fun v s h => holds_past (h.keeps k2 (fun _ _ e => e)) (k2.heap HR1.out (fun e => e)) (slices4 (none, 0, 0) (none, 0, 0) (none, 0, 0) (none, 0, 0)) k3
 exact ⟨_, _, _, _, rfl, hh _ _ H0.out, hh _ _ H1.out, hh _ _ H2.out, hh _ _ H3.out, ((HK0.out.trans K1.out (fun _ _ e => e)).trans k2 (fun _ _ e => e)).trans k3 (fun k hk e => by omega)⟩
theorem decode_ok (v : Value) (s0 s1 s2 s3 : List Nat) (w : World) (B : World → Value → World → Prop) (hp : ∀ q, Keeps (fun _ => False) w q → qhy v q s0 s1 s2 s3)
 (hs : ∀ q v0 v1 v2 v3, Keeps (fun _ => False) w q → Holds q v0 (u8s s0) → Holds q v1 (u8s s1) → Holds q v2 (u8s s2) → Holds q v3 (u8s s3) → Calls Tryz.prog 36 #[.agg #[v0, v1, v2, v3]] q fun e w' => ∃ u, e = .returned (.tuple #[u, .int .i64 0]) ∧ B q u w' ∧ Keeps (fun _ => False) q w') :
 Calls Tryz.prog 18 #[v] w fun e w' => ∃ q u, e = .returned (.tuple #[u, .int .i64 0]) ∧ B q u w' ∧ Keeps (fun _ => False) w w' := by
 have HP := Hj (lparse_ok v s0 s1 s2 s3 w hp)
 have HS := Hj hs
 clear hp hs
 go_enter Tryz.func18, Tryz.ntmps18
 go_wp2_with (first
  | (go_at_call 34
     refine HP.out.mono ?_
     rintro e w1 ⟨v0, v1, v2, v3, rfl, h0, h1, h2, h3, k1⟩
     obtain ⟨a0, n0, c0, rfl⟩ := qbu h0; obtain ⟨a1, n1, c1, rfl⟩ := qbu h1; obtain ⟨a2, n2, c2, rfl⟩ := qbu h2; obtain ⟨a3, n3, c3, rfl⟩ := qbu h3
     have kb := (Keeps.refl (fun _ => False) w1).alloc (.cells #[.slice a0 n0 c0, .slice a1 n1 c1, .slice a2 n2 c2, .slice a3 n3 c3] 75)
     have HX := Hj (HS.out _ _ _ _ _ (k1.trans kb (fun _ _ e => e)) (h0.keeps kb (fun _ _ e => e)) (h1.keeps kb (fun _ _ e => e)) (h2.keeps kb (fun _ _ e => e)) (h3.keeps kb (fun _ _ e => e)))
     have K1 := Hj (k1.trans kb (fun _ _ e => e))
     clear h0 h1 h2 h3 k1 kb)
  | (refine wpList_load_row rfl 75 _ rfl w1.heap.size rfl 75 #[.slice a0 n0 c0, .slice a1 n1 c1, .slice a2 n2 c2, .slice a3 n3 c3] (0, 0) _ (heap_alloc_new w1 _) Tryz.underlying75 rfl (by kernel_rfl) ?_)
  | (go_at_call 36
     refine HX.out.mono ?_
     rintro e w2 ⟨u, rfl, hu, k2⟩
     have HU := Hj hu; have K2 := Hj k2
     clear hu k2))
 go_ret2
 exact ⟨_, u, rfl, HU.out, K1.out.trans K2.out (fun _ _ e => e)⟩
end
end Go.Proofs.YtfpcgcbehdogjaaGreatDoor
