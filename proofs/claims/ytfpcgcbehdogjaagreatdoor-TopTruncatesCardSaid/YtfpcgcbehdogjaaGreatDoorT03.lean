/-
  Lemmas on which LTopTruncates rests, packed out of the texts PRdr PApp2 PVar PDict Shelf PVar2; each for all arguments under the hypotheses it names.
-/
import Derived.Test.YtfpcgcbehdogjaaGreatDoorT01
import Derived.Maps.RangeWalk
import Derived.Shelf.Small.Bits
import Derived.Shelf.Strconv.Itoa0
import Derived.Shelf.Sort.Plain
import Derived.Shelf.Slices.Equal
import Derived.Shelf.Slices.CompactS
import Derived.Shelf.Slices.Cells
import Derived.Shelf.Slices.In.SortNone
import Derived.Shelf.Slices.Empties2
import Derived.Shelf.Bytes.SlSearch0
import Derived.Shelf.Bytes.SlEqualAll
import Derived.Shelf.Bytes.Small
import Derived.Test.YtfpcgcbehdogjaaGreatDoorProg
namespace Go.Proofs.YtfpcgcbehdogjaaGreatDoor
section
open Go.RowKit
def rbit (bs : List Nat) (i : Nat) : Bool := (bs.getD (i / 8) 0).testBit (7 - i % 8)
def qap (bs : List Nat) : List Bool := (List.range (8 * bs.length)).map (rbit bs)
theorem qcd (bs : List Nat) : (qap bs).length = 8 * bs.length := by simp [qap]
theorem qdu (bs : List Nat) (i : Nat) (h : i < 8 * bs.length) : (qap bs)[i]? = some (rbit bs i) := by simp [qap, h]
def qar (l : List Bool) : Nat := l.foldl (fun x b => x * 2 + b.toNat) 0
theorem bitsNat_nil : qar [] = 0 := rfl
theorem qet (l : List Bool) (b : Bool) : qar (l ++ [b]) = qar l * 2 + b.toNat := by simp [qar]
theorem snoc_cases {α : Type} (l : List α) : l = [] ∨ ∃ l' x, l = l' ++ [x] := by
 rcases List.eq_nil_or_concat l with h | ⟨l', x, h⟩
 · exact .inl h
 · exact .inr ⟨l', x, by simpa using h⟩
theorem bitsNat_lt (l : List Bool) : qar l < 2 ^ l.length := by
 have key : ∀ (n : Nat) (l : List Bool), l.length = n → qar l < 2 ^ n := by
  intro n
  induction n with
  | zero => intro l hl; simp [List.eq_nil_of_length_eq_zero hl, qar]
  | succ n ih =>
    intro l hl
    rcases snoc_cases l with rfl | ⟨l', b, rfl⟩
    · simp at hl
    · have := ih l' (by simpa using hl)
      rw [qet, Nat.pow_succ]
      cases b <;> simp <;> omega
 exact key _ l rfl
def qbi (bs : List Nat) (i n : Nat) : List Bool := ((qap bs).drop i).take n
theorem bitsFrom_zero (bs : List Nat) (i : Nat) : qbi bs i 0 = [] := by simp [qbi]
theorem bitsFrom_succ (bs : List Nat) (i n : Nat) (h : i + n < 8 * bs.length) : qbi bs i (n + 1) = qbi bs i n ++ [rbit bs (i + n)] := by
 unfold qbi
 rw [List.take_add_one, List.getElem?_drop, qdu bs _ h]; rfl
theorem bitsFrom_lt (bs : List Nat) (i n : Nat) : qar (qbi bs i n) < 2 ^ n := by
 have h := bitsNat_lt (qbi bs i n)
 have h2 : (qbi bs i n).length ≤ n := List.length_take_le _ _
 exact Nat.lt_of_lt_of_le h (Nat.pow_le_pow_right (by decide) h2)
theorem or_bit_u64 (x : Nat) (b : Bool) (h : x * 2 + b.toNat < 18446744073709551616) : bits .or .u64 ((x * 2 : Nat) : Int) ((b.toNat : Nat) : Int) = ((x * 2 + b.toNat : Nat) : Int) := by
 rw [u64_or_nat _ _ (by omega) (by cases b <;> simp)]
 congr 1
 have := nat_join 1 (x * 2) b.toNat (by omega) (by cases b <;> simp)
 exact this
theorem and_one_u64 (x : Nat) (h : x < 18446744073709551616) : bits .and .u64 ((x : Nat) : Int) 1 = ((x % 2 : Nat) : Int) := by
 rw [show (1 : Int) = ((1 : Nat) : Int) from rfl, u64_and_nat _ _ h (by decide)]
 congr 1
 exact Nat.and_one_is_mod x
theorem qfz (c t : Nat) : (c / 2 ^ t) % 2 = (c.testBit t).toNat := by
 rw [Nat.testBit_eq_decide_div_mod_eq]
 rcases Nat.mod_two_eq_zero_or_one (c / 2 ^ t) with h | h <;> simp [h]
structure IsR (w : World) (base p : Nat) (v : Value) (bs : List Nat) (i : Nat) : Prop where
 blk : w.heap[p]? = some (.cells #[v, .int .i64 (i : Nat)] 113 (0, 0))
 row : w.ownsRow base 5 1 v bs.length (u8s bs)
 base : base ≤ p
 bytes : ∀ c ∈ bs, c < 256
theorem IsR.keeps {S : Nat → Prop} {a b : World} {base p : Nat} {v : Value} {bs : List Nat} {i : Nat} (h : IsR a base p v bs i) (k : Keeps S a b) (hp : ¬ S p) (hv : ∀ g, v.ownBlock = some g → ¬ S g) : IsR b base p v bs i :=
 ⟨k.heap h.blk hp, k.row h.row hv, h.base, h.bytes⟩
theorem IsR.lt {a : World} {base p : Nat} {v : Value} {bs : List Nat} {i : Nat} (h : IsR a base p v bs i) : p < a.heap.size := (Array.getElem?_eq_some_iff.1 h.blk).1
theorem IsR.cell0 {a : World} {base p : Nat} {v : Value} {bs : List Nat} {i : Nat} (h : IsR a base p v bs i) : a.cell? ⟨p, 0, none⟩ = some v := by rw [cell_of_row a p 0 _ _ _ h.blk]; rfl
theorem IsR.cell1 {a : World} {base p : Nat} {v : Value} {bs : List Nat} {i : Nat} (h : IsR a base p v bs i) : a.cell? ⟨p, 1, none⟩ = some (.int .i64 (i : Nat)) := by rw [cell_of_row a p 1 _ _ _ h.blk]; rfl
theorem IsR.free {a : World} {base p : Nat} {v : Value} {bs : List Nat} {i : Nat} (h : IsR a base p v bs i) (j : Nat) : a.frozen? ⟨p, j, none⟩ = false := frozen_of_row a p j _ _ h.blk
theorem IsR.shape {a : World} {base p : Nat} {v : Value} {bs : List Nat} {i : Nat} (h : IsR a base p v bs i) : ∃ ad cap, v = .slice ad bs.length cap := by
 obtain ⟨ad, cap, hv, _⟩ := qaq h.row
 exact ⟨ad, cap, by rw [hv, qaa]⟩
theorem IsR.byte {a : World} {base p : Nat} {v : Value} {bs : List Nat} {i : Nat} (h : IsR a base p v bs i) {j : Nat} (hj : j < bs.length) :
 ∃ b off cap, v = .slice (some ⟨b, off, none⟩) bs.length cap ∧ a.cell? ⟨b, off + j, none⟩ = some (.int .u8 ((bs.getD j 0 : Nat) : Int)) ∧ bs.getD j 0 < 256 := by
 obtain ⟨ad, cap, rfl, hc, h' | ⟨bl, off, rfl, hcell⟩⟩ := qaq h.row
 · have : bs = [] := by cases bs <;> simp_all [u8s]
   subst this; simp at hj
 · refine ⟨bl, off, cap, by rw [qaa], hcell j _ (by simp [u8s, hj, List.getD_eq_getElem?_getD]), ?_⟩
   have e : bs.getD j 0 = bs[j] := by simp [List.getD_eq_getElem?_getD, hj]
   rw [e]; exact h.bytes _ (List.getElem_mem hj)
theorem IsR.step {a : World} {base p : Nat} {v : Value} {bs : List Nat} {i : Nat} (h : IsR a base p v bs i) : IsR (a.setCell ⟨p, 1, none⟩ (.int .i64 ((i : Int) + 1))) base p v bs (i + 1) := by
 have hs := heap_setCell_same a p 1 _ _ (.int .i64 ((i : Int) + 1)) h.blk
 refine ⟨by simpa using hs, ?_, h.base, h.bytes⟩
 have k : Keeps (fun k => k = p) a (a.setCell ⟨p, 1, none⟩ (.int .i64 ((i : Int) + 1))) := (Keeps.refl (fun k => k = p) a).setCell (p := ⟨p, 1, none⟩) (fun _ => rfl) _
 refine k.row h.row (fun g hg e => ?_)
 obtain ⟨c, hc⟩ := qak h.row hg
 exact qaf hc h.blk (by decide) e
end
section
open Go.RowKit
section
variable {P : Program} {ty : TypeId}
theorem qim (w : World) (t ty e : TypeId) (i : TypeInfo) (ht : P.underlying t = some (.slice e)) (hi : P.info? e = some i) (b : Option Addr) (n cap m : Nat) (h : n ≤ cap) :
 (Builtin.append_ #[t, t] ty #[.slice b n cap, .slice none 0 m]).run P w = .ok (.slice b n cap) w := by
 cases b <;> simp [Builtin.append_, run_underlying ht, sizeOf, typeInfo, hi, Builtin.lenOf, h, Builtin.firstCells, storeCells]
theorem qho (w : World) (base : Nat) (t ty e : TypeId) (i : TypeInfo) (z : Value) (bytes : Nat) (ht : P.underlying t = some (.slice e)) (hi : P.info? e = some i) (hz : i.zero = some z)
 (hsize : i.size = 1) (hby : i.bytes = bytes) (hzs : z.cells.size = 1)
 (v x : Value) (xs ys : List Value) (hown : w.ownsRow base e 1 v xs.length xs) (hx : Holds w x ys) (h1 : ∀ u ∈ ys, u.oneCell' = true)
 (h63 : xs.length + ys.length ≤ maxLen) (hbytes : (xs.length + ys.length) * bytes ≤ 140737488355328) (hbase : base ≤ w.heap.size) :
 ∃ v' w', (Builtin.append_ #[t, t] ty #[v, x]).run P w = .ok v' w' ∧ RowTo e base v w v' (xs ++ ys) w' := by
 obtain ⟨ad, cap, rfl, hc, h⟩ := hx
 cases ad with
 | none =>
   have hy : ys = [] := by
    rcases h with h | ⟨b, off, hb, _⟩
    · exact h
    · cases hb
   subst hy
   obtain ⟨a2, c2, rfl, hcc, _⟩ := qaq hown
   refine ⟨_, w, qim w t ty e i ht hi _ _ _ _ hcc, ?_⟩
   rw [List.append_nil]
   exact RowTo.refl hown
 | some a =>
   have hcell : ∀ j u, ys[j]? = some u → w.cell? (a.add j) = some u := by
    intro j u hj
    rcases h with h | ⟨b, off, hb, h⟩
    · subst h; simp at hj
    · obtain rfl := Option.some.inj hb
      rw [qbn]
      exact h j u hj
   obtain ⟨v', w', hr, ho, hg, _, hn⟩ := qcr (P := P) w base t ty e i z 1 bytes ht hi hz hsize hby hzs (by decide) v xs.length xs hown a ys.length cap ys (by omega) hcell h1 h63 hbytes hbase
   refine ⟨v', w', hr, by rw [List.length_append]; exact ho, (Keeps.refl (own v) w).grown hg (fun k _ e => e), hn⟩
theorem wpList_want {w : World} {ops : Array Oper} {rest : List Oper} {o : Oper} {a : Act} {Q : Exit → Act → World → Prop} (hg : Region.wanted o (yielded ops a.tmps) = true)
 (h : ∀ K : Act → World → Prop, (∀ a w, wpList P ops Q rest a w → K a w) → o.wp P a w K Q) : wpList P ops Q (o :: rest) a w :=
 wpList_step fun K hK => by rw [if_pos hg]; exact h K hK
theorem qba (w : World) {ops : Array Oper} {rest : List Oper} {o : Oper} {a : Act} {Q : Exit → Act → World → Prop} (hgd : Region.wanted o (yielded ops a.tmps) = true) (s x : Operand) (t : TypeId)
 (ho : o.op = .call { callee := .builtin .append, args := #[s, x], argTypes := #[t, t] })
 (base : Nat) (e : TypeId) (i : TypeInfo) (z : Value) (bytes : Nat) (ht : P.underlying t = some (.slice e)) (hi : P.info? e = some i) (hz : i.zero = some z)
 (hsize : i.size = 1) (hby : i.bytes = bytes) (hzs : z.cells.size = 1)
 (v y : Value) (xs ys : List Value) (hs : a.eval s = v) (hxe : a.eval x = y) (hown : w.ownsRow base e 1 v xs.length xs) (hx : Holds w y ys) (h1 : ∀ u ∈ ys, u.oneCell' = true)
 (h63 : xs.length + ys.length ≤ maxLen) (hbytes : (xs.length + ys.length) * bytes ≤ 140737488355328) (hbase : base ≤ w.heap.size)
 (h : ∀ v' w', RowTo e base v w v' (xs ++ ys) w' → wpList P ops Q rest (a.put o.dst v') w') : wpList P ops Q (o :: rest) a w := by
 obtain ⟨v', w', hr, h2⟩ := qho (P := P) w base t o.type e i z bytes ht hi hz hsize hby hzs v y xs ys hown hx h1 h63 hbytes hbase
 refine wpList_want hgd fun K hK => ?_
 unfold Oper.wp execOp
 simp only [ho, resolve, invoke, builtin, Sem.run_bind, Sem.run_pure, Result.andThen_ok, List.map_toArray, List.map_cons, List.map_nil, hs, hxe, hr]
 exact hK _ _ (h v' w' h2)
end
end
section
open Go.RowKit
def qbm : Nat → Nat → List (Nat × Bool)
 | 0, x => [(x, true)]
 | n + 1, x => if x < 128 then [(x, true)] else (x % 128, false) :: qbm n (x / 128)
def byteOf (p : Nat × Bool) : Nat := if p.2 then p.1 else p.1 + 128
def vencF : Nat → Nat → List Nat
 | 0, x => [x]
 | n + 1, x => if x < 128 then [x] else (x % 128 + 128) :: vencF n (x / 128)
def venc (x : Nat) : List Nat := vencF 9 x
theorem venc_groups (n x : Nat) : (qbm n x).map byteOf = vencF n x := by
 induction n generalizing x with
 | zero => rfl
 | succ n ih =>
   simp only [qbm, vencF]
   split
   · rfl
   · simp [byteOf, ih]
def vgo : Nat → Nat → List Nat → Nat × Nat × Nat
 | _, _, [] => (0, 0, 3)
 | i, x, c :: r => if i = 9 ∧ 1 < c then (0, 0, 6) else if c = 0 ∧ 0 < i then (0, 0, 5) else if c < 128 then (x + c % 128 * 2 ^ (7 * i), i + 1, 0) else vgo (i + 1) (x + c % 128 * 2 ^ (7 * i)) r
theorem vencF_lt (n x : Nat) (h : x < 128 ^ (n + 1)) : ∀ c ∈ vencF n x, c < 256 := by
 induction n generalizing x with
 | zero => intro c hc; simp [vencF] at hc; omega
 | succ n ih =>
   intro c hc
   simp only [vencF] at hc
   split at hc
   · simp at hc; omega
   · simp only [List.mem_cons] at hc
     rcases hc with rfl | hc
     · omega
     · exact ih (x / 128) (Nat.div_lt_of_lt_mul (by rw [Nat.pow_succ] at h; omega)) c hc
theorem qcp (x : Nat) (h : x ≤ 18446744073709551615) : ∀ c ∈ venc x, c < 256 := vencF_lt 9 x (by omega)
theorem qcs (n x : Nat) : (vencF n x).length ≤ n + 1 := by
 induction n generalizing x with
 | zero => simp [vencF]
 | succ n ih => simp only [vencF]; split <;> simp; exact ih _
theorem groupsF_lt (n x : Nat) (h : x < 128 ^ (n + 1)) : ∀ p ∈ qbm n x, p.1 < 128 := by
 induction n generalizing x with
 | zero => intro p hp; simp [qbm] at hp; subst hp; simpa using h
 | succ n ih =>
   intro p hp
   simp only [qbm] at hp
   split at hp
   · simp at hp; subst hp; assumption
   · simp only [List.mem_cons] at hp
     rcases hp with rfl | hp
     · simp only; omega
     · exact ih (x / 128) (Nat.div_lt_of_lt_mul (by rw [Nat.pow_succ] at h; omega)) p hp
theorem qkf (n x : Nat) : (qbm n x).length ≤ n + 1 := by
 induction n generalizing x with
 | zero => simp [qbm]
 | succ n ih => simp only [qbm]; split <;> simp; exact ih _
theorem or128 (c : Nat) (h : c < 128) : bits .or .u8 ((c : Nat) : Int) 128 = ((c + 128 : Nat) : Int) := by
 rw [show (128 : Int) = ((128 : Nat) : Int) from rfl, u8_or_nat c 128 (by omega) (by decide)]
 congr 1
 rw [Nat.or_comm, nat_join 7 128 c (by decide) (by omega)]
 omega
theorem qbb (x : Nat) : (venc x).length ≤ 10 := qcs 9 x
end
section
open Go.RowKit Go.Maps
def insO (x : Nat) : List Nat → List Nat
 | [] => [x]
 | y :: r => if x < y then x :: y :: r else if x = y then y :: r else y :: insO x r
def dictO (l : List Nat) : List Nat := l.foldr insO []
theorem mem_insO (x z : Nat) (l : List Nat) : z ∈ insO x l ↔ z = x ∨ z ∈ l := by
 induction l with
 | nil => simp [insO]
 | cons y r ih =>
   unfold insO
   split
   · simp
   · split
     · rename_i _ h; subst h; simp
     · simp only [List.mem_cons, ih]
       constructor
       · rintro (h | h | h)
         · exact .inr (.inl h)
         · exact .inl h
         · exact .inr (.inr h)
       · rintro (h | h | h)
         · exact .inr (.inl h)
         · exact .inl h
         · exact .inr (.inr h)
theorem insO_sorted (x : Nat) (l : List Nat) (h : l.Pairwise (· < ·)) : (insO x l).Pairwise (· < ·) := by
 induction l with
 | nil => simp [insO]
 | cons y r ih =>
   obtain ⟨h1, h2⟩ := List.pairwise_cons.1 h
   unfold insO
   split
   · rename_i hxy
     refine List.pairwise_cons.2 ⟨fun z hz => ?_, h⟩
     rcases List.mem_cons.1 hz with rfl | hz
     · exact hxy
     · exact Nat.lt_trans hxy (h1 z hz)
   · split
     · exact h
     · refine List.pairwise_cons.2 ⟨fun z hz => ?_, ih h2⟩
       rcases (mem_insO x z r).1 hz with rfl | hz
       · omega
       · exact h1 z hz
theorem qhh (l : List Nat) : (dictO l).Pairwise (· < ·) := by
 induction l with
 | nil => exact List.Pairwise.nil
 | cons x r ih => exact insO_sorted x _ ih
theorem qga (z : Nat) (l : List Nat) : z ∈ dictO l ↔ z ∈ l := by
 induction l with
 | nil => simp [dictO]
 | cons x r ih =>
   show z ∈ insO x (dictO r) ↔ _
   rw [mem_insO, ih, List.mem_cons]
theorem strict_ext : ∀ (a b : List Nat), a.Pairwise (· < ·) → b.Pairwise (· < ·) → (∀ z, z ∈ a ↔ z ∈ b) → a = b := by
 intro a
 induction a with
 | nil => intro b _ _ h; cases b with
   | nil => rfl
   | cons y r => exact absurd ((h y).2 (by simp)) (by simp)
 | cons x r ih =>
   intro b ha hb h
   cases b with
   | nil => exact absurd ((h x).1 (by simp)) (by simp)
   | cons y s =>
     obtain ⟨a1, a2⟩ := List.pairwise_cons.1 ha
     obtain ⟨b1, b2⟩ := List.pairwise_cons.1 hb
     have hx : x = y := by
      rcases List.mem_cons.1 ((h x).1 (by simp)) with e | e
      · exact e
      · rcases List.mem_cons.1 ((h y).2 (by simp)) with e' | e'
        · exact e'.symm
        · have := a1 y e'; have := b1 x e; omega
     subst hx
     rw [ih s a2 b2 (fun z => ?_)]
     constructor
     · intro hz
       rcases List.mem_cons.1 ((h z).1 (List.mem_cons_of_mem _ hz)) with e | e
       · have := a1 z hz; omega
       · exact e
     · intro hz
       rcases List.mem_cons.1 ((h z).2 (List.mem_cons_of_mem _ hz)) with e | e
       · have := b1 z hz; omega
       · exact e
theorem strict_of {a : Array Nat} {d : List Nat} (hp : Go.Sort.PermIn 0 d.length d.toArray a) (hs : Go.Sort.SortedIn ltN 0 d.length a) (hn : d.Nodup) : a.toList.Pairwise (· < ·) ∧ a.toList.Perm d := by
 have hsz : a.size = d.length := by rw [hp.1]; simp
 have hperm : a.toList.Perm d := by
  have h := hp.2.2
  rw [show (a.extract 0 d.length) = a by rw [← hsz]; simp, show (d.toArray.extract 0 d.length) = d.toArray by rw [show d.length = d.toArray.size by simp]; exact Array.extract_size] at h
  simpa using h
 refine ⟨?_, hperm⟩
 have hnd : a.toList.Nodup := hperm.symm.nodup hn
 rw [List.pairwise_iff_getElem]
 intro i j hi hj hij
 have hi' : i < a.size := by simpa using hi
 have hj' : j < a.size := by simpa using hj
 have h := hs i j (Nat.zero_le _) hij (by omega)
 rw [getElem!_pos a i hi', getElem!_pos a j hj'] at h
 simp only [ltN, decide_eq_false_iff_not] at h
 have hne : a.toList[i] ≠ a.toList[j] := List.pairwise_iff_getElem.1 hnd i j hi hj hij
 simp only [Array.getElem_toList] at hne ⊢
 omega
theorem dictO_of {a : Array Nat} {d l : List Nat} (hp : Go.Sort.PermIn 0 d.length d.toArray a) (hs : Go.Sort.SortedIn ltN 0 d.length a) (hn : d.Nodup) (hm : ∀ z, z ∈ d ↔ z ∈ l) : a.toList = dictO l := by
 obtain ⟨h1, h2⟩ := strict_of hp hs hn
 exact strict_ext _ _ h1 (qhh l) (fun z => by rw [h2.mem_iff, hm, qga])
theorem insO_length (x : Nat) (l : List Nat) : (insO x l).length ≤ l.length + 1 := by
 induction l with
 | nil => simp [insO]
 | cons y r ih =>
   unfold insO
   split
   · simp
   · split
     · simp
     · simp only [List.length_cons]; omega
theorem dictO_length (l : List Nat) : (dictO l).length ≤ l.length := by
 induction l with
 | nil => simp [dictO]
 | cons x r ih =>
   have := insO_length x (dictO r)
   show (insO x (dictO r)).length ≤ _
   simp only [List.length_cons]; omega
theorem dictO_pos {l : List Nat} (h : l ≠ []) : 0 < (dictO l).length := by
 cases l with
 | nil => exact absurd rfl h
 | cons x r =>
   have := (qga x (x :: r)).2 (by simp)
   exact List.length_pos_of_mem this
def CollN {H : Type} (D0 : DataW H) (left : Lit → Bool) (ss : List Nat) : Prop := ss.Nodup ∧ ∀ x : Nat, x ∈ ss ↔ (has D0 (.int .u64 (x : Int)) = true ∧ left (.int .u64 (x : Int)) = false)
section
variable {H : Type} {D0 : DataW H} {left : Lit → Bool} {ss : List Nat}
theorem CollN.start (D0 : DataW H) : CollN D0 (has D0) [] := ⟨List.nodup_nil, fun x => by cases has D0 (.int .u64 (x : Int)) <;> simp⟩
theorem CollN.step (h : CollN D0 left ss) {x : Nat} {y : DataW H} (hlk : left (.int .u64 (x : Int)) = true) (hat : ∀ zd, D0.atKey (.int .u64 (x : Int)) zd = y) : CollN D0 (fun z => left z && !z.sameKey (.int .u64 (x : Int))) (ss ++ [x]) := by
 have hhas : has D0 (.int .u64 (x : Int)) = true := has_true_of_atKey hat
 have hnew : x ∉ ss := fun hx => by have := ((h.2 x).1 hx).2; rw [hlk] at this; cases this
 refine ⟨List.nodup_append.2 ⟨h.1, by simp, fun a ha b hb => by simp at hb; subst hb; exact fun e => hnew (e ▸ ha)⟩, fun y => ?_⟩
 by_cases hy : y = x
 · subst hy; simp [hhas, Lit.sameKey]
 · have hyx : ¬ (y : Int) = (x : Int) := by omega
   simp [h.2 y, hy, hyx, Lit.sameKey]
theorem CollN.done (h : CollN D0 left ss) (hl : ∀ kl, left kl = false) : ∀ x : Nat, x ∈ ss ↔ has D0 (.int .u64 (x : Int)) = true := fun x => by rw [h.2 x, hl]; simp
end
end
end Go.Proofs.YtfpcgcbehdogjaaGreatDoor
section
namespace Go.Proofs
open Go.Shelf
def Tryz.lays190_ren : Go.Shelf.Ren := ⟨fun | 190 => 205 | 125 => 157 | 258 => 228 | 128 => 192 | 129 => 193 | 302 => 242 | 303 => 243 | 304 => 244 | 305 => 245 | 306 => 246 | 307 => 247 | 308 => 208 | 309 => 248 | 310 => 249 | 333 => 254 | 329 => 238 | 330 => 239 | 334 => 255 | 335 => 256 | 336 => 212 | 344 => 258 | n => n, fun | 31 => 132 | 9 => 9 | 3 => 3 | 46 => 207 | 0 => 0 | 51 => 236 | 53 => 23 | 4 => 4 | 183 => 333 | 182 => 332 | 131 => 144 | 5 => 5 | 218 => 345 | 222 => 348 | 228 => 357 | 229 => 358 | n => n, fun | n => n⟩
theorem Tryz.lays190 : Go.Proofs.Lays.n190 Tryz.prog Tryz.lays190_ren := {
 mixed := by kernel_rfl
 f125 := Tryz.func157.trans (congrArg some (by kernel_rfl))
 f128 := Tryz.func192.trans (congrArg some (by kernel_rfl))
 f129 := Tryz.func193.trans (congrArg some (by kernel_rfl))
 f190 := Tryz.func205.trans (congrArg some (by kernel_rfl))
 f258 := Tryz.func228.trans (congrArg some (by kernel_rfl))
 f302 := Tryz.func242.trans (congrArg some (by kernel_rfl))
 f303 := Tryz.func243.trans (congrArg some (by kernel_rfl))
 f304 := Tryz.func244.trans (congrArg some (by kernel_rfl))
 f305 := Tryz.func245.trans (congrArg some (by kernel_rfl))
 f306 := Tryz.func246.trans (congrArg some (by kernel_rfl))
 f307 := Tryz.func247.trans (congrArg some (by kernel_rfl))
 f308 := Tryz.func208.trans (congrArg some (by kernel_rfl))
 f309 := Tryz.func248.trans (congrArg some (by kernel_rfl))
 f310 := Tryz.func249.trans (congrArg some (by kernel_rfl))
 f329 := Tryz.func238.trans (congrArg some (by kernel_rfl))
 f330 := Tryz.func239.trans (congrArg some (by kernel_rfl))
 f333 := Tryz.func254.trans (congrArg some (by kernel_rfl))
 f334 := Tryz.func255.trans (congrArg some (by kernel_rfl))
 f335 := Tryz.func256.trans (congrArg some (by kernel_rfl))
 f336 := Tryz.func212.trans (congrArg some (by kernel_rfl))
 f344 := Tryz.func258.trans (congrArg some (by kernel_rfl))
 t0 := Tryz.underlying0
 a0 := Tryz.isAgg0
 z0 := Tryz.sizeOf0
 v0 := Tryz.zeroValue0
 t3 := Tryz.underlying3
 a3 := Tryz.isAgg3
 z3 := Tryz.sizeOf3
 v3 := Tryz.zeroValue3
 t4 := Tryz.underlying4
 a4 := Tryz.isAgg4
 z4 := Tryz.sizeOf4
 v4 := Tryz.zeroValue4
 t5 := Tryz.underlying5
 a5 := Tryz.isAgg5
 z5 := Tryz.sizeOf5
 v5 := Tryz.zeroValue5
 t9 := Tryz.underlying9
 a9 := Tryz.isAgg9
 z9 := Tryz.sizeOf9
 v9 := Tryz.zeroValue9
 t31 := Tryz.underlying132
 a31 := Tryz.isAgg132
 z31 := Tryz.sizeOf132
 v31 := Tryz.zeroValue132
 t46 := Tryz.underlying207
 a46 := Tryz.isAgg207
 z46 := Tryz.sizeOf207
 v46 := Tryz.zeroValue207
 t51 := Tryz.underlying236
 a51 := Tryz.isAgg236
 z51 := Tryz.sizeOf236
 v51 := Tryz.zeroValue236
 t53 := Tryz.underlying23
 a53 := Tryz.isAgg23
 z53 := Tryz.sizeOf23
 v53 := Tryz.zeroValue23
 t131 := Tryz.underlying144
 a131 := Tryz.isAgg144
 z131 := Tryz.sizeOf144
 v131 := Tryz.zeroValue144
 t182 := Tryz.underlying332
 a182 := Tryz.isAgg332
 z182 := Tryz.sizeOf332
 v182 := Tryz.zeroValue332
 t183 := Tryz.underlying333
 a183 := Tryz.isAgg333
 z183 := Tryz.sizeOf333
 v183 := Tryz.zeroValue333
 t218 := Tryz.underlying345
 a218 := Tryz.isAgg345
 z218 := Tryz.sizeOf345
 v218 := Tryz.zeroValue345
 t222 := Tryz.underlying348
 a222 := Tryz.isAgg348
 z222 := Tryz.sizeOf348
 v222 := Tryz.zeroValue348
 t228 := Tryz.underlying357
 a228 := Tryz.isAgg357
 z228 := Tryz.sizeOf357
 v228 := Tryz.zeroValue357
 t229 := Tryz.underlying358
 a229 := Tryz.isAgg358
 z229 := Tryz.sizeOf358
 v229 := Tryz.zeroValue358 }
open Go.Sort Go.RowKit in
theorem Tryz.slices_Sort_string (blk off cap : Nat) (ss : List (List UInt8)) (w : World) (hH : Holds encStr w blk off ss.toArray) (hblk : blk < w.heap.size) (hsz : ss.length < 4611686018427387904) :
 Calls Tryz.prog 205 #[.slice (some ⟨blk, off, none⟩) ss.length cap] w fun e w' =>
  e = .returned (.tuple #[]) ∧ ∃ n os, w' = grow (putRow encStr (Sort.ahead w n) blk off (ss.mergeSort fun x y => decide (x ≤ y)).toArray) os := Any.slices_Sort_string Tryz.lays190 blk off cap ss w hH hblk hsz
def Tryz.lays111_ren : Go.Shelf.Ren := ⟨fun | 111 => 140 | n => n, fun | 28 => 125 | 3 => 3 | 4 => 4 | 0 => 0 | n => n, fun | n => n⟩
theorem Tryz.lays111 : Go.Proofs.Lays.n111 Tryz.prog Tryz.lays111_ren := {
 mixed := by kernel_rfl
 f111 := Tryz.func140.trans (congrArg some (by kernel_rfl))
 t0 := Tryz.underlying0
 a0 := Tryz.isAgg0
 z0 := Tryz.sizeOf0
 v0 := Tryz.zeroValue0
 t3 := Tryz.underlying3
 a3 := Tryz.isAgg3
 z3 := Tryz.sizeOf3
 v3 := Tryz.zeroValue3
 t4 := Tryz.underlying4
 a4 := Tryz.isAgg4
 z4 := Tryz.sizeOf4
 v4 := Tryz.zeroValue4
 t28 := Tryz.underlying125
 a28 := Tryz.isAgg125
 z28 := Tryz.sizeOf125
 v28 := Tryz.zeroValue125 }
open Go.RowKit Go.Lib in
theorem Tryz.slices_Equal_int (b1 o1 n c b2 o2 m d : Nat) (xs ys : List Int) (w : World) (hx : n ≤ xs.length) (hy : m ≤ ys.length) (hbig : n ≤ 9223372036854775807) (hbig2 : m ≤ 9223372036854775807) (hc1 : ∀ j, j < xs.length → w.cell? ⟨b1, o1 + j, none⟩ = some (.int .i64 (xs.getD j 0))) (hc2 : ∀ j, j < ys.length → w.cell? ⟨b2, o2 + j, none⟩ = some (.int .i64 (ys.getD j 0))) :
 Calls Tryz.prog 140 #[.slice (some ⟨b1, o1, none⟩) n c, .slice (some ⟨b2, o2, none⟩) m d] w fun e w' => e = .returned (.bool (xs.take n == ys.take m)) ∧ ∃ q, w' = w.drewN q := Any.slices_Equal_int Tryz.lays111 b1 o1 n c b2 o2 m d xs ys w hx hy hbig hbig2 hc1 hc2
def Tryz.lays194_ren : Go.Shelf.Ren := ⟨fun | 194 => 167 | n => n, fun | 31 => 132 | 9 => 9 | 3 => 3 | 4 => 4 | 0 => 0 | n => n, fun | n => n⟩
theorem Tryz.lays194 : Go.Proofs.Lays.n194 Tryz.prog Tryz.lays194_ren := {
 mixed := by kernel_rfl
 f194 := Tryz.func167.trans (congrArg some (by kernel_rfl))
 t0 := Tryz.underlying0
 a0 := Tryz.isAgg0
 z0 := Tryz.sizeOf0
 v0 := Tryz.zeroValue0
 t3 := Tryz.underlying3
 a3 := Tryz.isAgg3
 z3 := Tryz.sizeOf3
 v3 := Tryz.zeroValue3
 t4 := Tryz.underlying4
 a4 := Tryz.isAgg4
 z4 := Tryz.sizeOf4
 v4 := Tryz.zeroValue4
 t9 := Tryz.underlying9
 a9 := Tryz.isAgg9
 z9 := Tryz.sizeOf9
 v9 := Tryz.zeroValue9
 t31 := Tryz.underlying132
 a31 := Tryz.isAgg132
 z31 := Tryz.sizeOf132
 v31 := Tryz.zeroValue132 }
open Go.RowKit Go.Lib Go.Sort in
theorem Tryz.slices_Compact_string_empty (a : Option Addr) (cap : Nat) (w : World) :
 Calls Tryz.prog 167 #[.slice a 0 cap] w fun e w' => e = .returned (.slice a 0 cap) ∧ w' = w := Any.slices_Compact_string_empty Tryz.lays194 a cap w
open Go.RowKit Go.Lib Go.Sort in
theorem Tryz.slices_Compact_string_cells (b off n c : Nat) (Sx : Nat → ByteArray) (w : World) (hbig : n ≤ 9223372036854775807) (hcap : n ≤ c) (hc : ∀ i, i < n → w.cell? ⟨b, off + i, none⟩ = some (.string (Sx i))) (hf : ∀ j, j < n → w.frozen? ⟨b, off + j, none⟩ = false) :
 Calls Tryz.prog 167 #[.slice (some ⟨b, off, none⟩) n c] w fun e w' => e = .returned (.slice (some ⟨b, off, none⟩) (Lib.compact (Lib.strsOf Sx n)).length c) ∧ ∃ q, w' = (w.drewN q).setCells b off ((Lib.compact (Lib.strsOf Sx n) ++ List.replicate (n - (Lib.compact (Lib.strsOf Sx n)).length) []).map encStr) := Any.slices_Compact_string_cells Tryz.lays194 b off n c Sx w hbig hcap hc hf
open Go.RowKit Go.Sort in
theorem Tryz.slices_Sort_string_none (p : Option Addr) (cap : Nat) (w : World) :
 Calls Tryz.prog 205 #[.slice p 0 cap] w fun e w' => e = .returned (.tuple #[]) ∧ w' = w := Any.slices_Sort_string_none Tryz.lays190 p cap w
end Go.Proofs
end
namespace Go.Proofs.YtfpcgcbehdogjaaGreatDoor
section
theorem vgo_prefix (n : Nat) : ∀ (y i acc k : Nat), i + n ≤ 9 → k < (vencF n y).length → vgo i acc ((vencF n y).take k) = (0, 0, 3) := by
 induction n with
 | zero => intro y i acc k _ hk; simp [vencF] at hk; subst hk; rfl
 | succ n ih =>
   intro y i acc k hi hk
   simp only [vencF] at hk ⊢
   split at hk
   · rename_i h
     simp at hk; subst hk; rfl
   · rename_i h
     rw [if_neg h]
     cases k with
     | zero => rfl
     | succ k =>
       rw [List.take_succ_cons, vgo, if_neg (by omega), if_neg (by omega), if_neg (by omega)]
       exact ih _ _ _ _ (by omega) (by simpa using hk)
theorem vgo_enc (n : Nat) (rest : List Nat) : ∀ (y i acc : Nat), y < 128 ^ (n + 1) → i + n ≤ 9 → (i = 9 → y ≤ 1) → (n ≠ 0 → y * 2 ^ (7 * i) < 2 ^ 64) → (0 < i → 0 < y) →
 vgo i acc (vencF n y ++ rest) = (acc + y * 2 ^ (7 * i), i + (vencF n y).length, 0) := by
 induction n with
 | zero =>
   intro y i acc hy hi h9 _ h0
   simp only [vencF, List.singleton_append, List.length_singleton]
   rw [vgo, if_neg (by omega), if_neg (by omega), if_pos (by omega), Nat.mod_eq_of_lt (by omega)]
 | succ n ih =>
   intro y i acc hy hi h9 h64 h0
   simp only [vencF]
   split
   · rename_i h
     simp only [List.singleton_append, List.length_singleton]
     rw [vgo, if_neg (by omega), if_neg (by omega), if_pos h, Nat.mod_eq_of_lt h]
   · rename_i h
     have e : (y / 128) * 2 ^ (7 * (i + 1)) = (y / 128 * 128) * 2 ^ (7 * i) := by
      rw [show 7 * (i + 1) = 7 * i + 7 by omega, Nat.pow_add, Nat.mul_assoc, Nat.mul_comm (2 ^ (7 * i)) (2 ^ 7)]
     have h64' := h64 (by omega)
     have hle : (y / 128 * 128) * 2 ^ (7 * i) ≤ y * 2 ^ (7 * i) := Nat.mul_le_mul_right _ (by omega)
     simp only [List.cons_append, List.length_cons]
     rw [vgo, if_neg (by omega), if_neg (by omega), if_neg (by omega)]
     rw [ih (y / 128) (i + 1) _ (Nat.div_lt_of_lt_mul (by rw [Nat.pow_succ] at hy; omega)) (by omega) ?_ (fun _ => by rw [e]; omega) (fun _ => by omega)]
     · simp only [Prod.mk.injEq]
       refine ⟨?_, by omega, trivial⟩
       rw [e, Nat.add_assoc, ← Nat.add_mul]
       congr 2
       omega
     · intro h8
       obtain rfl : i = 8 := by omega
       have h2 := Nat.lt_of_le_of_lt hle h64'
       have e1 : (2 : Nat) ^ (7 * 8) = 72057594037927936 := by decide
       have e2 : (2 : Nat) ^ 64 = 18446744073709551616 := by decide
       rw [e1, e2] at h2
       clear hle h64' e ih h64 hy
       omega
theorem vgo_venc (x : Nat) (h : x ≤ 18446744073709551615) (rest : List Nat) : vgo 0 0 (venc x ++ rest) = (x, (venc x).length, 0) := by
 have h10 : x < 128 ^ (9 + 1) := by omega
 have h64 : x * 2 ^ (7 * 0) < 2 ^ 64 := by rw [Nat.mul_zero, Nat.pow_zero, Nat.mul_one]; omega
 have := vgo_enc 9 rest x 0 0 h10 (Nat.le_refl _) (fun h => absurd h (by decide)) (fun _ => h64) (fun h => absurd h (by decide))
 rw [Nat.mul_zero, Nat.pow_zero, Nat.mul_one, Nat.zero_add, Nat.zero_add] at this
 exact this
theorem vgo_canon (l : List Nat) (hb : ∀ c ∈ l, c < 256) : ∀ (i acc x cnt : Nat), i ≤ 9 → vgo i acc l = (x, cnt, 0) →
 ∃ (y : Nat), i < cnt ∧ cnt ≤ i + l.length ∧ vencF (9 - i) y = l.take (cnt - i) ∧ x = acc + y * 2 ^ (7 * i) ∧ y < 128 ^ (9 - i + 1) ∧ (i = 9 → y ≤ 1) ∧ (0 < i → 0 < y) := by
 induction l with
 | nil => intro i acc x cnt _ h; simp [vgo] at h
 | cons c r ih =>
   intro i acc x cnt hi h
   rw [vgo] at h
   split at h
   · simp at h
   · rename_i h9
     split at h
     · simp at h
     · rename_i h0
       split at h
       · rename_i hc
         simp only [Prod.mk.injEq] at h
         obtain ⟨rfl, rfl, _⟩ := h
         have hp : 1 ≤ 128 ^ (9 - i) := Nat.pow_pos (by decide)
         refine ⟨c, by omega, by simp, ?_, by rw [Nat.mod_eq_of_lt hc], by rw [Nat.pow_succ]; omega, by omega, by omega⟩
         rw [show i + 1 - i = 1 by omega]
         cases h8 : 9 - i with
         | zero => simp [vencF]
         | succ m => simp [vencF, hc]
       · rename_i hc
         have hi8 : i < 9 := by
          rcases Nat.lt_or_ge i 9 with h5 | h5
          · exact h5
          · omega
         obtain ⟨y, h1, h2, h3, h4, h5, h6, h7⟩ := ih (fun c hc => hb c (by simp [hc])) (i + 1) _ x cnt (by omega) h
         have hc256 := hb c (by simp)
         have hy0 := h7 (by omega)
         refine ⟨c % 128 + 128 * y, by omega, by simp; omega, ?_, ?_, ?_, by omega, by omega⟩
         · rw [show 9 - i = (9 - (i + 1)) + 1 by omega, vencF, if_neg (by omega)]
           have e1 : (c % 128 + 128 * y) % 128 + 128 = c := by omega
           have e2 : (c % 128 + 128 * y) / 128 = y := by omega
           rw [e1, e2, h3, show cnt - i = (cnt - (i + 1)) + 1 by omega, List.take_succ_cons]
         · rw [h4, show 7 * (i + 1) = 7 * i + 7 by omega, Nat.pow_add, Nat.add_mul, Nat.add_assoc]
           congr 1
           rw [Nat.mul_comm 128 y, Nat.mul_assoc, Nat.mul_comm (2 ^ (7 * i)) (2 ^ 7)]
         · rw [show 9 - i + 1 = (9 - (i + 1) + 1) + 1 by omega, Nat.pow_succ]
           omega
#print axioms vgo_canon
end
end Go.Proofs.YtfpcgcbehdogjaaGreatDoor
