/-
  Lemmas on which LTopTruncates rests, packed out of the texts YOk; each for all arguments under the hypotheses it names.
-/
import Derived.Test.YtfpcgcbehdogjaaGreatDoorT26
import Derived.Test.YtfpcgcbehdogjaaGreatDoorT18
namespace Go.Proofs.YtfpcgcbehdogjaaGreatDoor
section
open Go.RowKit
theorem qfp {α : Type} [Inhabited α] [DecidableEq α] (R : α → α → Prop) (ht : ∀ a b c, R a b → R b c → R a c) (d : Array α) (hs : ∀ i j, i ≤ j → j < d.size → R d[i]! d[j]! ∨ d[i]! = d[j]!) :
 ∀ m, m ≤ d.size → (Lib.compactUpTo d m).Pairwise R ∧ (∀ x ∈ Lib.compactUpTo d m, ∃ i, i < m ∧ x = d[i]!) ∧ ∀ i, i < m → d[i]! ∈ Lib.compactUpTo d m
 | 0, _ => by simp [Lib.compactUpTo]
 | m + 1, hm => by
   obtain ⟨h1, h2, h3⟩ := qfp R ht d hs m (by omega)
   rw [Lib.compactUpTo_succ]
   by_cases hk : Lib.keeps d m = true
   · rw [if_pos hk]
     have hk' : m = 0 ∨ d[m]! ≠ d[m - 1]! := by simpa [Lib.keeps] using hk
     refine ⟨List.pairwise_append.2 ⟨h1, by simp, fun a ha c hc => ?_⟩, fun x hx => ?_, fun i hi => ?_⟩
     · rw [List.mem_singleton.1 hc]
       obtain ⟨i, hi, rfl⟩ := h2 a ha
       have hk' : d[m]! ≠ d[m - 1]! := hk'.resolve_left (by omega)
       have h4 : R d[m - 1]! d[m]! := (hs (m - 1) m (by omega) (by omega)).resolve_right (fun e => hk' e.symm)
       rcases hs i (m - 1) (by omega) (by omega) with h5 | h5
       · exact ht _ _ _ h5 h4
       · rw [h5]; exact h4
     · rcases List.mem_append.1 hx with hx | hx
       · obtain ⟨i, hi, e⟩ := h2 x hx; exact ⟨i, by omega, e⟩
       · exact ⟨m, by omega, List.mem_singleton.1 hx⟩
     · by_cases e : i = m
       · subst e; simp
       · exact List.mem_append_left _ (h3 i (by omega))
   · rw [if_neg hk, List.append_nil]
     have hk' : m ≠ 0 ∧ d[m]! = d[m - 1]! := by
      have : ¬ (m = 0 ∨ d[m]! ≠ d[m - 1]!) := by simpa [Lib.keeps] using hk
      exact ⟨fun e => this (.inl e), Classical.byContradiction fun e => this (.inr e)⟩
     refine ⟨h1, fun x hx => ?_, fun i hi => ?_⟩
     · obtain ⟨i, hi, e⟩ := h2 x hx; exact ⟨i, by omega, e⟩
     · by_cases e : i = m
       · subst e; rw [hk'.2]; exact h3 _ (by have := hk'.1; omega)
       · exact h3 i (by omega)
def ltB (x y : List UInt8) : Prop := Op.bytesLess x y = true
theorem leB_iff (x y : List UInt8) : x ≤ y ↔ ltB x y ∨ x = y := by
 have h : x ≤ y ↔ Op.bytesLess y x = false := by rw [bytesLess_eq, decide_eq_false_iff_not]; exact Iff.rfl
 rw [h, qda x y]
 unfold ltB
 cases Op.bytesLess x y <;> simp
theorem ltB_trans {x y z : List UInt8} (h1 : ltB x y) (h2 : ltB y z) : ltB x z := qku h1 h2
theorem sortO_pair (ss : List ByteArray) : (sortO ss).Pairwise fun x y => ltB x y ∨ x = y := by
 unfold sortO
 have := List.pairwise_mergeSort (le := fun x y : List UInt8 => decide (x ≤ y)) (fun a b c h1 h2 => by
  simp only [decide_eq_true_eq, leB_iff] at *
  rcases h1 with h1 | rfl
  · rcases h2 with h2 | rfl
    · exact .inl (ltB_trans h1 h2)
    · exact .inl h1
  · exact h2) (fun a b => by
  simp only [Bool.or_eq_true, decide_eq_true_eq, leB_iff]
  have := qda a b
  unfold ltB
  cases h : Op.bytesLess a b
  · by_cases e : a = b
    · exact .inl (.inr e)
    · right; left; rw [this, h]; simp [e]
  · exact .inl (.inl rfl)) (strB ss)
 exact this.imp fun h => by simpa only [decide_eq_true_eq, leB_iff] using h
theorem qlf (ss : List ByteArray) : (tabO ss).Pairwise ltB ∧ ∀ x, x ∈ tabO ss ↔ x ∈ strB ss := by
 have hp := sortO_pair ss
 have hm : ∀ x, x ∈ sortO ss ↔ x ∈ strB ss := fun x => by unfold sortO; exact List.mem_mergeSort
 unfold tabO Lib.compact
 generalize sortO ss = l at *
 obtain ⟨h1, h2, h3⟩ := qfp ltB (fun a b c => ltB_trans) l.toArray (fun i j hij hj => by
  have hj' : j < l.length := by simpa using hj
  simp only [List.getElem!_toArray, getElem!_pos l i (by omega), getElem!_pos l j hj']
  by_cases e : i = j
  · subst e; exact .inr rfl
  · exact List.pairwise_iff_getElem.1 hp i j _ _ (by omega)) l.length (by simp)
 refine ⟨h1, fun x => ⟨fun hx => ?_, fun hx => ?_⟩⟩
 · obtain ⟨i, hi, e⟩ := h2 x hx
   rw [← hm, e]
   simp only [List.getElem!_toArray, getElem!_pos l i hi]
   exact List.getElem_mem hi
 · obtain ⟨i, hi, e⟩ := List.mem_iff_getElem.1 ((hm x).2 hx)
   have := h3 i hi
   simp only [List.getElem!_toArray, getElem!_pos l i hi, e] at this
   exact this
def tbO (ss : List ByteArray) : List ByteArray := (tabO ss).map fun l => ⟨l.toArray⟩
theorem strB_tbO (ss : List ByteArray) : tabO ss = strB (tbO ss) := by
 unfold strB tbO
 rw [List.map_map]
 conv => lhs; rw [← List.map_id (tabO ss)]
 rfl
theorem mem_tbO (ss : List ByteArray) (s : ByteArray) : s ∈ tbO ss ↔ s ∈ ss := by
 have h1 := (qlf ss).2 s.data.toList
 have hin : ∀ (l : List ByteArray), s.data.toList ∈ strB l ↔ s ∈ l := fun l => by
  constructor
  · intro h
    obtain ⟨y, hy, e⟩ := List.mem_map.1 h
    rw [← ByteArray.ext (Array.toList_inj.1 e)]
    exact hy
  · exact fun h => List.mem_map.2 ⟨s, h, rfl⟩
 rw [← hin ss, ← h1, strB_tbO, hin]
theorem tbO_pair (ss : List ByteArray) : (tbO ss).Pairwise fun x y => Op.bytesLess x.toList y.toList = true := by
 unfold tbO
 rw [List.pairwise_map]
 exact (qlf ss).1.imp fun {a b} h => by unfold ltB at h; simpa only [Lib.toList_data] using h
theorem qlg (ss : List ByteArray) : (tbO ss).length ≤ ss.length := by
 unfold tbO tabO
 rw [List.length_map]
 exact Nat.le_trans (Lib.compact_length_le _) (Nat.le_of_eq (qbs ss))
theorem pair_zip {α : Type} {R : α → α → Prop} : ∀ {l : List α}, l.Pairwise R → ∀ p ∈ l.zip l.tail, R p.1 p.2
 | [], _, p, hp => by simp at hp
 | [_], _, p, hp => by simp at hp
 | x :: y :: r, h, p, hp => by
   rw [List.tail_cons, List.zip_cons_cons] at hp
   rcases List.mem_cons.1 hp with rfl | hp
   · exact (List.pairwise_cons.1 h).1 y (by simp)
   · exact pair_zip (List.pairwise_cons.1 h).2 p hp
theorem tbO_asc (ss : List ByteArray) : Asc (tbO ss) := pair_zip (tbO_pair ss)
theorem tbO_pos {ss : List ByteArray} {k : Nat} {s : ByteArray} (h : (tbO ss)[k]? = some s) : Pos (tbO ss) s k := by
 have hp := List.pairwise_iff_getElem.1 (tbO_pair ss)
 obtain ⟨hk, ek⟩ := List.getElem?_eq_some_iff.1 h
 refine ⟨h, fun j x hx => ?_⟩
 obtain ⟨hj, ej⟩ := List.getElem?_eq_some_iff.1 hx
 rcases Nat.lt_trichotomy j k with c | rfl | c
 · have := hp j k hj hk c
   rw [ej, ek] at this
   rw [this]; simp [c]
 · rw [ej] at ek; subst ek
   rw [qfq]; simp
 · have := hp k j hk hj c
   rw [ej, ek] at this
   rw [qda s.toList x.toList, this]
   simp; omega
noncomputable def posT (tb : List ByteArray) (s : ByteArray) : Nat := Classical.epsilon fun k => tb[k]? = some s
theorem posT_at {ss : List ByteArray} {s : ByteArray} (h : s ∈ ss) : Pos (tbO ss) s (posT (tbO ss) s) :=
 tbO_pos (Classical.epsilon_spec (p := fun k => (tbO ss)[k]? = some s) (List.mem_iff_getElem?.1 ((mem_tbO ss s).2 h)))
theorem posT_lt {ss : List ByteArray} {s : ByteArray} (h : s ∈ ss) : posT (tbO ss) s < ss.length :=
 Nat.lt_of_lt_of_le (List.getElem?_eq_some_iff.1 (posT_at h).1).1 (qlg ss)
theorem bloE_ser : ∀ (b : List Ser) (p : Option Ser), bloE p b = 0 → ∀ x ∈ b, serE x = 0
 | [], _, _, x, hx => by cases hx
 | y :: r, p, h, x, hx => by
   unfold bloE at h
   by_cases hy : serE y = 0
   · rw [if_neg (by simp [hy])] at h
     rcases List.mem_cons.1 hx with rfl | hx
     · exact hy
     · cases p with
       | none => exact bloE_ser r _ h x hx
       | some q =>
         simp only at h
         split at h
         · omega
         · split at h
           · omega
           · exact bloE_ser r _ h x hx
   · rw [if_pos hy] at h; exact absurd h hy
theorem chkE_lab : ∀ (l : List Lab) (p : Option Lab), chkE p l = 0 → ∀ x ∈ l, labE x = 0
 | [], _, _, x, hx => by cases hx
 | y :: r, p, h, x, hx => by
   unfold chkE at h
   by_cases hy : labE y = 0
   · rw [if_neg (by simp [hy])] at h
     rcases List.mem_cons.1 hx with rfl | hx
     · exact hy
     · cases p with
       | none => exact chkE_lab r _ h x hx
       | some q =>
         simp only at h
         split at h
         · omega
         · split at h
           · omega
           · exact chkE_lab r _ h x hx
   · rw [if_pos hy] at h; exact absurd h hy
theorem labE_size {x : Lab} (h : labE x = 0) : x.1.size ≤ 65535 ∧ x.2.size ≤ 65535 := by
 unfold labE at h
 split at h
 · omega
 · split at h
   · omega
   · omega
theorem modE_facts {b : List Ser} (h : modE b = 0) : ∀ x ∈ b, x.2 ≠ [] ∧ ∀ y ∈ x.1, y.1.size ≤ 65535 ∧ y.2.size ≤ 65535 := by
 unfold modE at h
 split at h
 · omega
 · intro x hx
   have h1 := bloE_ser b none h x hx
   unfold serE at h1
   by_cases h2 : chkE none x.1 = 0
   · rw [if_neg (by simp [h2])] at h1
     refine ⟨fun e => ?_, fun y hy => labE_size (chkE_lab x.1 none h2 y hy)⟩
     rw [e] at h1
     simp at h1
   · rw [if_pos h2] at h1; exact absurd h1 h2
structure InvM (P : Lab → Prop) (es : List Ent) (i N : Nat) : Prop where
 key : ∀ e ∈ es, P e.1
 num : ∀ e ∈ es, e.2.Pairwise (· ≤ ·) ∧ ∀ n ∈ e.2, n ≤ i
 tot : totM es ≤ N
 len : es.length ≤ N
theorem InvM.up {P : Lab → Prop} {es : List Ent} {i j N : Nat} (h : InvM P es i N) (hij : i ≤ j) : InvM P es j N :=
 ⟨h.key, fun e he => ⟨(h.num e he).1, fun n hn => Nat.le_trans ((h.num e he).2 n hn) hij⟩, h.tot, h.len⟩
theorem InvM.add {P : Lab → Prop} {es : List Ent} {i N : Nat} (h : InvM P es i N) {x : Lab} (hx : P x) : InvM P (addM es x i) i (N + 1) := by
 refine ⟨fun e he => ?_, fun e he => ?_, by rw [addM_tot]; have := h.tot; omega, by have := qjn es x i; have := h.len; omega⟩
 · rcases addM_from he with e1 | ⟨y, hy, e1⟩
   · rw [e1]; exact hx
   · rw [← e1]; exact h.key y hy
 · unfold addM at he
   split at he
   · rename_i j hj
     obtain ⟨v, hv⟩ := qcq hj
     rcases List.mem_or_eq_of_mem_set he with he | rfl
     · exact h.num e he
     · have hd : es.getD j (x, []) = (x, v) := by simp [List.getD_eq_getElem?_getD, hv]
       have hn := h.num _ (List.mem_of_getElem? hv)
       rw [hd]
       refine ⟨List.pairwise_append.2 ⟨hn.1, by simp, fun a ha c hc => ?_⟩, fun n hm => ?_⟩
       · rw [List.mem_singleton.1 hc]; exact hn.2 a ha
       · rcases List.mem_append.1 hm with hm | hm
         · exact hn.2 n hm
         · rw [List.mem_singleton.1 hm]; exact Nat.le_refl _
   · rcases List.mem_append.1 he with he | he
     · exact h.num e he
     · rw [List.mem_singleton.1 he]
       exact ⟨by simp, by simp⟩
theorem InvM.adds {P : Lab → Prop} {i : Nat} : ∀ (xs : List Lab) {es : List Ent} {N : Nat}, InvM P es i N → (∀ x ∈ xs, P x) → InvM P (bldI es i xs) i (N + xs.length)
 | [], _, _, h, _ => h
 | x :: r, es, N, h, hx => by
   have := InvM.adds r (h.add (hx x (by simp))) (fun y hy => hx y (by simp [hy]))
   rw [List.length_cons, show N + (r.length + 1) = N + 1 + r.length by omega]
   exact this
theorem bldM_inv {P : Lab → Prop} {ls : List (List Lab)} (hP : ∀ l ∈ ls, ∀ x ∈ l, P x) : ∀ k, k ≤ ls.length → InvM P (bldM (ls.take k)) k (cntL ls k)
 | 0, _ => by
   have : bldM (ls.take 0) = [] := by simp [bldM]
   rw [this]
   exact ⟨by simp, by simp, by simp [totM], by simp⟩
 | k + 1, h => by
   have hl : ls[k]? = some ls[k] := List.getElem?_eq_getElem (by omega)
   rw [bldM_snoc ls hl, cntL_succ ls hl]
   exact (InvM.adds _ (bldM_inv hP k (by omega)) (fun x hx => hP _ (List.getElem_mem _) x hx)).up (Nat.le_succ k)
theorem bldO_facts {P : Lab → Prop} {ls : List (List Lab)} (hP : ∀ l ∈ ls, ∀ x ∈ l, P x) : (bldO ls).length ≤ (ls.map List.length).sum ∧ ∀ e ∈ bldO ls, P e.1 ∧ e.2.Pairwise (· ≤ ·) ∧ (∀ n ∈ e.2, n ≤ ls.length) ∧ e.2.length ≤ (ls.map List.length).sum := by
 have h := bldM_inv hP ls.length (Nat.le_refl _)
 rw [List.take_length] at h
 have hc := cntL_le ls ls.length
 refine ⟨by unfold bldO; rw [List.length_map, qdl, List.length_map]; have := h.len; omega, fun e he => ?_⟩
 unfold bldO at he
 obtain ⟨x, hx, rfl⟩ := List.mem_map.1 he
 obtain ⟨y, hy, rfl⟩ := List.mem_map.1 ((qds _).mem_iff.1 hx)
 refine ⟨h.key y hy, ?_⟩
 unfold numsM
 split
 · rename_i j hj
   obtain ⟨v, hv⟩ := qcq hj
   have hd : (bldM ls).getD j (y.1, []) = (y.1, v) := by simp [List.getD_eq_getElem?_getD, hv]
   have hm := List.mem_of_getElem? hv
   rw [hd]
   exact ⟨(h.num _ hm).1, (h.num _ hm).2, by have := le_totM hm; have := h.tot; simp only at *; omega⟩
 · exact ⟨by simp, by simp, by simp⟩
theorem mono_pair {l : List Nat} (h : l.Pairwise (· ≤ ·)) : Mono l := fun j hj => by
 unfold prevN
 split
 · exact Nat.zero_le _
 · rw [List.getD_eq_getElem?_getD, List.getD_eq_getElem?_getD, List.getElem?_eq_getElem hj, List.getElem?_eq_getElem (show j - 1 < l.length by omega)]
   exact List.pairwise_iff_getElem.1 h (j - 1) j _ _ (by omega)
theorem qdm {α β : Type} {f : α → List β} {c : Nat} : ∀ {l : List α}, (∀ x ∈ l, (f x).length ≤ c) → (l.flatMap f).length ≤ l.length * c
 | [], _ => by simp
 | x :: r, h => by
   have h1 := h x (by simp)
   have h2 := qdm (l := r) (fun y hy => h y (by simp [hy]))
   rw [List.flatMap_cons, List.length_append, List.length_cons, Nat.add_mul]
   omega
theorem symsL_length (b : List Ser) : (symsL b).length = (b.flatMap (·.1)).length * 2 := by
 unfold symsL
 induction b with
 | nil => rfl
 | cons x r ih => rw [List.flatMap_cons, List.flatMap_cons, List.length_append, List.length_append, ih, qci]; omega
theorem sum_labs (b : List Ser) : ((b.map (·.1)).map List.length).sum = (b.flatMap (·.1)).length := by
 induction b with
 | nil => rfl
 | cons x r ih => rw [List.map_cons, List.map_cons, List.sum_cons, ih, List.flatMap_cons, List.length_append]
theorem mem_symsL {b : List Ser} {l : List Lab} (hl : l ∈ b.map (·.1)) {x : Lab} (hx : x ∈ l) : x.1 ∈ symsL b ∧ x.2 ∈ symsL b := by
 obtain ⟨s, hs, rfl⟩ := List.mem_map.1 hl
 exact ⟨List.mem_flatMap.2 ⟨s, hs, List.mem_flatMap.2 ⟨x, hx, by simp⟩⟩, List.mem_flatMap.2 ⟨s, hs, List.mem_flatMap.2 ⟨x, hx, by simp⟩⟩⟩
theorem symsL_mem {b : List Ser} {s : ByteArray} (h : s ∈ symsL b) : ∃ x ∈ b, ∃ y ∈ x.1, s = y.1 ∨ s = y.2 := by
 obtain ⟨x, hx, h⟩ := List.mem_flatMap.1 h
 obtain ⟨y, hy, h⟩ := List.mem_flatMap.1 h
 exact ⟨x, hx, y, hy, by simpa using h⟩
theorem qlh (l : List Smp) (h : l.length ≤ 120) : 1 ≤ (chunkC l).length ∧ (chunkC l).length ≤ 4000 := by
 have h5 := qfs (timesS l)
 have hv := qfw (tagO (valsS l)) (valsS l) (fun e => qhb (qjf e)) (qha _)
 rw [qej] at h5
 rw [qey] at hv
 unfold chunkC bitsC
 rw [qaw]
 simp only [List.length_append, qad]
 omega
theorem partS_le (l : List Smp) (j : Nat) : (partS l j).length ≤ 120 := by rw [qdk]; unfold cLen; omega
theorem qfd (l : List Smp) (h : l.length ≤ 3000) : (lensOf l).length ≤ 25 ∧ (l ≠ [] → lensOf l ≠ []) ∧ ∀ m ∈ lensOf l, 1 ≤ m ∧ m ≤ 4000 := by
 have hn : (lensOf l).length = nCh l.length := by simp [lensOf]
 refine ⟨by rw [hn]; unfold nCh; omega, fun h0 e => ?_, fun m hm => ?_⟩
 · rw [e] at hn
   have := List.length_pos_iff.2 h0
   unfold nCh at hn
   simp at hn
   omega
 · obtain ⟨j, _, rfl⟩ := List.mem_map.1 hm
   exact qlh _ (partS_le l j)
theorem zip_mem {α : Type} {b : List α} {p : α × Nat} (h : p ∈ b.zipIdx) : p.1 ∈ b := by
 obtain ⟨x, k⟩ := p
 have := (List.mem_zipIdx' h).2
 rw [this]
 exact List.getElem_mem _
theorem chO_mem {b : List Ser} {p : Nat × List Nat} (h : p ∈ chO b) : ∃ x ∈ b, ∃ j, p.2 = chunkC (partS x.2 j) := by
 unfold chO at h
 obtain ⟨⟨x, k⟩, hx, hp⟩ := List.mem_flatMap.1 h
 unfold chI at hp
 obtain ⟨j, _, rfl⟩ := List.mem_map.1 hp
 exact ⟨x, zip_mem hx, j, rfl⟩
theorem chO_len (b : List Ser) (h : ∀ x ∈ b, x.2.length ≤ 3000) : (chO b).length ≤ b.length * 25 := by
 unfold chO
 have := qdm (l := b.zipIdx) (f := fun p : Ser × Nat => chI p.2 p.1.2 (nCh p.1.2.length)) (c := 25) (fun p hp => by
  have := h p.1 (zip_mem hp)
  unfold chI
  rw [List.length_map, List.length_range]
  unfold nCh; omega)
 simpa using this
theorem posO_len (pos : ByteArray → Nat) (ss : List ByteArray) : (posO pos ss).length ≤ ss.length * 10 := qdm (fun _ _ => qbb _)
theorem posO_lt {pos : ByteArray → Nat} {ss : List ByteArray} (h : ∀ s ∈ ss, pos s ≤ 1000000) : ∀ c ∈ posO pos ss, c < 256 := fun c hc => by
 obtain ⟨s, hs, hc⟩ := List.mem_flatMap.1 hc
 exact qcp _ (by have := h s hs; omega) c hc
theorem dlPre_len (l : List Nat) : ∀ j, (dlPre l j).length ≤ j * 10
 | 0 => by simp [dlPre]
 | j + 1 => by have := dlPre_len l j; have := qbb (l.getD j 0 - prevN l j); rw [dlPre, List.length_append]; omega
theorem dlPre_lt {l : List Nat} (h : ∀ n ∈ l, n ≤ 1000000) : ∀ j, ∀ c ∈ dlPre l j, c < 256
 | 0, c, hc => by simp [dlPre] at hc
 | j + 1, c, hc => by
   rw [dlPre] at hc
   rcases List.mem_append.1 hc with hc | hc
   · exact dlPre_lt h j c hc
   · refine qcp _ ?_ c hc
     have : l.getD j 0 ≤ 1000000 := by
      rw [List.getD_eq_getElem?_getD]
      cases e : l[j]? with
      | none => simp
      | some x => simpa using h x (List.mem_of_getElem? e)
     omega
theorem encok (b : List Ser) (hf : ∀ x ∈ b, FitS x.2) (hs : Small b) (hN : (b.flatMap (·.1)).length ≤ 200) (hm : modE b = 0) : ∃ pos tb, EncOk pos tb b := by
 have hmf := modE_facts hm
 have hsl := symsL_length b
 have hsum := sum_labs b
 have htl := qlg (symsL b)
 have hstr : ∀ s ∈ tbO (symsL b), s.size ≤ 65535 := fun s h => by
  obtain ⟨x, hx, y, hy, e⟩ := symsL_mem ((mem_tbO _ _).1 h)
  have := (hmf x hx).2 y hy
  rcases e with rfl | rfl
  · exact this.1
  · exact this.2
 have hpl : ∀ s ∈ symsL b, posT (tbO (symsL b)) s ≤ 1000000 := fun s h => by have := posT_lt h; omega
 obtain ⟨hbl, hbf⟩ := bldO_facts (P := fun x => x.1 ∈ symsL b ∧ x.2 ∈ symsL b) (ls := b.map (·.1)) (fun l hl x hx => mem_symsL hl hx)
 have hml : (b.map (·.1)).length ≤ 300 := by rw [List.length_map]; exact hs.1
 have hch := chO_len b (fun x hx => (hs.2 x hx).2)
 have hb300 := hs.1
 have hst : ∀ x ∈ b, ∀ s ∈ strsL x.1, s ∈ symsL b := fun x hx s h => List.mem_flatMap.2 ⟨x, hx, h⟩
 refine ⟨posT (tbO (symsL b)), tbO (symsL b), ?_⟩
 have hsn : qai b ≤ 16777216 := by
  unfold modE at hm
  split at hm
  · omega
  · rename_i h; omega
 exact {
  few := by omega
  chk := hm
  ser := fun x hx => ⟨(hmf x hx).1, by have := (hs.2 x hx).2; omega, hf x hx⟩
  smp := by omega
  lab := fun x hx => by have := (hs.2 x hx).1; omega
  tab := strB_tbO _
  str := hstr
  tbl := by omega
  asc := tbO_asc _
  at_ := fun s h => posT_at h
  sym := by omega
  len := fun x hx => by
   obtain ⟨h1, h2, h3⟩ := qfd x.2 (hs.2 x hx).2
   exact ⟨by omega, h2 (hmf x hx).1, fun m hm => by have := h3 m hm; omega⟩
  chs := by omega
  siz := fun x hx y hy => by have := (hmf x hx).2 y hy; unfold maxLen; omega
  sum := by omega
  pos_ := fun e he => ⟨posT_at (hbf e he).1.1, posT_at (hbf e he).1.2⟩
  mono := fun e he => ⟨by have := (hbf e he).2.2.2; omega, mono_pair (hbf e he).2.1, fun n hn => by have := (hbf e he).2.2.1 n hn; omega⟩
  ents := by omega
  l0 := by
   unfold symO
   have h1 := qbb (tbO (symsL b)).length
   have h2 := qdm (l := tbO (symsL b)) (f := fun s => lenB (bytesN s)) (c := 65545) (fun s h => by have := qei (bytesN s); rw [qcu] at this; have := hstr s h; omega)
   rw [List.length_append]; omega
  l1 := by
   unfold recO
   have h1 := qbb (recsO b).length
   have h2 := qdm (l := recsO b) (f := recO1 (posT (tbO (symsL b)))) (c := 5000) (fun r h => by
    obtain ⟨x, hx, rfl⟩ := List.mem_map.1 h
    unfold recO1
    have h3 := qbb x.1.length
    have h4 := posO_len (posT (tbO (symsL b))) (strsL x.1)
    have h5 := qbb (lensOf x.2).length
    have h6 := qdm (l := lensOf x.2) (f := venc) (c := 10) (fun s _ => qbb s)
    have h7 := (qfd x.2 (hs.2 x hx).2).1
    have h8 := (hs.2 x hx).1
    rw [qci] at h4
    simp only [List.length_append]; omega)
   have h3 : (recsO b).length = b.length := by simp [recsO]
   rw [List.length_append]; omega
  l2 := by
   unfold dataO dataF
   have h2 := qdm (l := chO b) (f := fun p => p.2) (c := 4000) (fun p h => by
    obtain ⟨x, _, j, e⟩ := chO_mem h
    rw [e]; exact (qlh _ (partS_le _ _)).2)
   omega
  l3 := by
   unfold postO
   have h1 := qbb (bldO (b.map (·.1))).length
   have h2 := qdm (l := bldO (b.map (·.1))) (f := postO1 (posT (tbO (symsL b)))) (c := 5000) (fun e he => by
    unfold postO1
    have h3 := posO_len (posT (tbO (symsL b))) [e.1.1, e.1.2]
    have h4 := qbb e.2.length
    have h5 := dlPre_len e.2 e.2.length
    have h6 := (hbf e he).2.2.2
    simp only [List.length_append, List.length_cons, List.length_nil] at *; omega)
   rw [List.length_append]; omega
  b0 := fun c hc => by
   unfold symO at hc
   rcases List.mem_append.1 hc with hc | hc
   · exact qcp _ (by omega) c hc
   · obtain ⟨s, h, hc⟩ := List.mem_flatMap.1 hc
     exact lenB_lt _ (bytesN_lt s) (by rw [qcu]; have := hstr s h; omega) c hc
  b1 := fun c hc => by
   unfold recO at hc
   have h3 : (recsO b).length = b.length := by simp [recsO]
   rcases List.mem_append.1 hc with hc | hc
   · exact qcp _ (by omega) c hc
   · obtain ⟨r, h, hc⟩ := List.mem_flatMap.1 hc
     obtain ⟨x, hx, rfl⟩ := List.mem_map.1 h
     have h7 := qfd x.2 (hs.2 x hx).2
     have h8 := (hs.2 x hx).1
     unfold recO1 at hc
     simp only [List.mem_append] at hc
     rcases hc with ((hc | hc) | hc) | hc
     · exact qcp _ (by omega) c hc
     · exact posO_lt (fun s h => hpl s (hst x hx s h)) c hc
     · exact qcp _ (by have := h7.1; omega) c hc
     · obtain ⟨m, h, hc⟩ := List.mem_flatMap.1 hc
       exact qcp _ (by have := h7.2.2 m h; omega) c hc
  b2 := fun c hc => by
   unfold dataO dataF at hc
   obtain ⟨p, h, hc⟩ := List.mem_flatMap.1 hc
   obtain ⟨x, _, j, e⟩ := chO_mem h
   rw [e] at hc
   exact packed_lt _ c hc
  b3 := fun c hc => by
   unfold postO at hc
   rcases List.mem_append.1 hc with hc | hc
   · exact qcp _ (by omega) c hc
   · obtain ⟨e, he, hc⟩ := List.mem_flatMap.1 hc
     obtain ⟨h1, h2, h3, h4⟩ := hbf e he
     unfold postO1 at hc
     simp only [List.mem_append] at hc
     rcases hc with (hc | hc) | hc
     · exact posO_lt (fun s h => by
        simp only [List.mem_cons, List.not_mem_nil, or_false] at h
        rcases h with rfl | rfl
        · exact hpl _ h1.1
        · exact hpl _ h1.2) c hc
     · exact qcp _ (by omega) c hc
     · exact dlPre_lt (fun n hn => by have := h3 n hn; omega) _ c hc }
end
end Go.Proofs.YtfpcgcbehdogjaaGreatDoor
