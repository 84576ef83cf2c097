/-
  PLAIN: which blocks of a world may have turned ('Keeps'); rows that a slice owns. No walk here.
  PLAIN: the order of strings; what checking and comparing labels answers.
  PLAIN: what checking blocks answers; how blocks lie in memory.
-/
import Derived.Test.YtnoodiibkchaaaaGreatDoorRows
import Derived.WalkKit
import Derived.RangeFuncBox
import Derived.Deep.QuietTactic
import Derived.Lib.Strings
namespace Go.Proofs.YtnoodiibkchaaaaGreatDoor
open Go.RowKit

/-- of the blocks that were there only those of S may have turned; there may be new ones -/
structure Keeps (S : Nat → Prop) (w w' : World) : Prop where
  os : w'.os = w.os
  tape : w'.tape = w.tape
  output : w'.output = w.output
  size : w.heap.size ≤ w'.heap.size
  block : ∀ k, k < w.heap.size → ¬ S k → w'.heap[k]? = w.heap[k]?
theorem Keeps.refl (S : Nat → Prop) (w : World) : Keeps S w w := ⟨rfl, rfl, rfl, Nat.le_refl _, fun _ _ _ => rfl⟩
theorem Keeps.trans {S S' : Nat → Prop} {a b c : World} (h : Keeps S a b) (k : Keeps S' b c) (hS : ∀ k, k < a.heap.size → S' k → S k) : Keeps S a c :=
  ⟨k.os.trans h.os, k.tape.trans h.tape, k.output.trans h.output, Nat.le_trans h.size k.size,
    fun i hi hn => (k.block i (Nat.lt_of_lt_of_le hi h.size) (fun hs => hn (hS i hi hs))).trans (h.block i hi hn)⟩
theorem Keeps.mono {S S' : Nat → Prop} {a b : World} (h : Keeps S a b) (hS : ∀ k, k < a.heap.size → S k → S' k) : Keeps S' a b :=
  ⟨h.os, h.tape, h.output, h.size, fun i hi hn => h.block i hi (fun hs => hn (hS i hi hs))⟩
theorem Keeps.drew {S : Nat → Prop} {a b : World} (h : Keeps S a b) : Keeps S a b.drew := ⟨h.os, h.tape, h.output, h.size, h.block⟩
theorem Keeps.alloc {S : Nat → Prop} {a b : World} (h : Keeps S a b) (o : Obj) : Keeps S a (b.alloc o) :=
  h.trans (S' := fun _ => False) ⟨rfl, rfl, rfl, by simp, fun k hk _ => Below.heap_alloc b o k hk⟩ (fun _ _ hf => hf.elim)
theorem Keeps.setCell {S : Nat → Prop} {a b : World} (h : Keeps S a b) {p : Addr} (hp : p.block < a.heap.size → S p.block) (u : Value) : Keeps S a (b.setCell p u) :=
  h.trans (S' := fun k => k = p.block) ⟨rfl, rfl, rfl, by simp [World.setCell], fun k _ hk => heap_setCell_other b p k u hk⟩ (fun _ hk hf => by subst hf; exact hp hk)
theorem Keeps.grown {S : Nat → Prop} {a b c : World} {row : Option Nat} (h : Keeps S a b) (hg : b.grownBy c row) (hr : ∀ k, k < a.heap.size → row = some k → S k) : Keeps S a c :=
  h.trans (S' := fun k => row = some k) ⟨hg.os, hg.tape, hg.output, hg.size, fun k hk hn => hg.block k hk (fun e => hn e.symm)⟩ hr
theorem Keeps.below {S : Nat → Prop} {a b : World} {B : Nat} (h : Keeps S a b) (hB : B ≤ a.heap.size) (hS : ∀ k, k < a.heap.size → S k → B ≤ k) : Below B a b :=
  ⟨h.os, h.tape, h.output, h.size, fun k hk => h.block k (by omega) (fun hs => by have := hS k (by omega) hs; omega)⟩
theorem Keeps.of_below {a b : World} {B : Nat} (h : Below B a b) : Keeps (fun k => B ≤ k) a b :=
  ⟨h.os, h.tape, h.output, h.size, fun k _ hk => h.block k (by omega)⟩
theorem Keeps.cell {S : Nat → Prop} {a b : World} (h : Keeps S a b) {p : Addr} {v : Value} (hc : a.cell? p = some v) (hS : ¬ S p.block) : b.cell? p = some v :=
  (World.cell?_of_block (h.block p.block (World.block_lt_of_cell? a p hc) hS)).trans hc
theorem Keeps.heap {S : Nat → Prop} {a b : World} (h : Keeps S a b) {k : Nat} {o : Obj} (hk : a.heap[k]? = some o) (hS : ¬ S k) : b.heap[k]? = some o :=
  (h.block k (Array.getElem?_eq_some_iff.1 hk).1 hS).trans hk
theorem Keeps.row {S : Nat → Prop} {a b : World} (h : Keeps S a b) {base : Nat} {e : TypeId} {size : Nat} {v : Value} {n : Nat} {xs : List Value} (hr : a.ownsRow base e size v n xs)
    (hS : ∀ g, v.ownBlock = some g → ¬ S g) : b.ownsRow base e size v n xs := by
  refine ⟨hr.1, ?_⟩
  rcases hr.2 with hn | ⟨g, cap, cur, rfl, hb, hgg, rest⟩
  · exact .inl hn
  · exact .inr ⟨g, cap, cur, rfl, hb, h.heap hgg (hS g rfl), rest⟩
/-- a row's block bears the row's element type -/
theorem row_type {w : World} {base : Nat} {e : TypeId} {size : Nat} {v : Value} {n : Nat} {xs : List Value} (hr : w.ownsRow base e size v n xs) {g : Nat} (hg : v.ownBlock = some g) :
    ∃ cur, w.heap[g]? = some (.cells cur e (0, 0)) := by
  rcases hr.2 with ⟨rfl, _⟩ | ⟨g', cap, cur, rfl, hb, hgg, rest⟩
  · simp [Value.ownBlock] at hg
  · simp [Value.ownBlock] at hg; subst hg; exact ⟨cur, hgg⟩
theorem row_base {w : World} {base base' : Nat} {e : TypeId} {size : Nat} {v : Value} {n : Nat} {xs : List Value} (hr : w.ownsRow base e size v n xs) (hb : ∀ g, v.ownBlock = some g → base' ≤ g) :
    w.ownsRow base' e size v n xs := by
  refine ⟨hr.1, ?_⟩
  rcases hr.2 with hn | ⟨g, cap, cur, rfl, _, hgg, rest⟩
  · exact .inl hn
  · exact .inr ⟨g, cap, cur, rfl, hb g rfl, hgg, rest⟩
/-- blocks of two element types are two -/
theorem ne_of_types {w : World} {g p : Nat} {c c' : Array Value} {t t' : TypeId} {fr fr' : Nat × Nat} (hg : w.heap[g]? = some (.cells c t fr)) (hp : w.heap[p]? = some (.cells c' t' fr')) (ht : t ≠ t') : g ≠ p := by
  intro e
  subst e
  rw [hg] at hp
  simp only [Option.some.injEq, Obj.cells.injEq] at hp
  exact ht hp.2.1
theorem row_shape {w : World} {base : Nat} {e : TypeId} {size : Nat} {v : Value} {n : Nat} {xs : List Value} (hr : w.ownsRow base e size v n xs) (hn : n ≠ 0) :
    ∃ g cap cur, v = .slice (some ⟨g, 0, none⟩) n cap ∧ base ≤ g ∧ w.heap[g]? = some (.cells cur e (0, 0)) ∧ n ≤ cap ∧ cap ≤ maxLen ∧ cur.size = cap * size ∧ cur.toList.take (n * size) = xs := by
  rcases hr.2 with ⟨rfl, h0⟩ | ⟨g, cap, cur, rfl, hb, hgg, rest⟩
  · exact absurd h0 hn
  · exact ⟨g, cap, cur, rfl, hb, hgg, rest⟩

theorem row_slice {w : World} {base : Nat} {e : TypeId} {size : Nat} {v : Value} {n : Nat} {xs : List Value} (h : w.ownsRow base e size v n xs) : ∃ ad cap, v = .slice ad n cap := by
  rcases h.2 with ⟨rfl, h0⟩ | ⟨g, cap, cur, rfl, rest⟩
  · subst h0; exact ⟨_, _, rfl⟩
  · exact ⟨_, _, rfl⟩
theorem Keeps.drewN {S : Nat → Prop} {a b : World} (h : Keeps S a b) (n : Nat) : Keeps S a (b.drewN n) := ⟨h.os, h.tape, h.output, h.size, h.block⟩
theorem wp_region_class {P : Program} (C : World → Prop) {id : Nat} {Q : Exit → Act → World → Prop} {a : Act} {w : World} {l : List Oper} (hm : P.follows .mixedOrders = true) (hB : Region.lexB .any l.toArray = true) (hC : C { w with drawn := w.drawn + 1 })
    (h : wpQuiet P l.toArray C (fun a' => ∀ w', C w' → Q .normal a' w') l a) : (Code.region id l.toArray true).wp P Q a w :=
  wp_region_quiet (C := C) hm hB hC (by simpa using h)
/-- v reads as n elements of k cells each: these cells -/
def Rd (k : Nat) (w : World) (v : Value) (n : Nat) (xs : List Value) : Prop :=
  xs.length = n * k ∧ ∃ a cap, v = .slice a n cap ∧ n ≤ cap ∧ (n = 0 ∨ ∃ b off, a = some ⟨b, off, none⟩ ∧ ∀ j u, xs[j]? = some u → w.cell? ⟨b, off + j, none⟩ = some u)
theorem Rd.nil (k : Nat) (w : World) : Rd k w (.slice none 0 0) 0 [] := ⟨by simp, none, 0, rfl, Nat.le_refl _, .inl rfl⟩
theorem Rd.keeps {k : Nat} {S : Nat → Prop} {a b : World} {v : Value} {n : Nat} {xs : List Value} (h : Rd k a v n xs) (kk : Keeps S a b) (hS : ∀ g, v.ownBlock = some g → ¬ S g) : Rd k b v n xs := by
  obtain ⟨hl, ad, cap, rfl, hc, h | ⟨bl, off, rfl, hcell⟩⟩ := h
  · exact ⟨hl, ad, cap, rfl, hc, .inl h⟩
  · exact ⟨hl, _, cap, rfl, hc, .inr ⟨bl, off, rfl, fun j u hj => kk.cell (hcell j u hj) (hS bl rfl)⟩⟩
theorem Rd.below {k : Nat} {a b : World} {v : Value} {n : Nat} {xs : List Value} (h : Rd k a v n xs) (hb : Below a.heap.size a b) : Rd k b v n xs := by
  obtain ⟨hl, ad, cap, rfl, hc, h | ⟨bl, off, rfl, hcell⟩⟩ := h
  · exact ⟨hl, ad, cap, rfl, hc, .inl h⟩
  · refine ⟨hl, _, cap, rfl, hc, .inr ⟨bl, off, rfl, fun j u hj => ?_⟩⟩
    rw [hb.cell (World.block_lt_of_cell? a _ (hcell j u hj))]
    exact hcell j u hj
theorem rd_row {k : Nat} {w : World} {base : Nat} {e : TypeId} {v : Value} {n : Nat} {xs : List Value} (h : w.ownsRow base e k v n xs) : Rd k w v n xs := by
  refine ⟨h.1, ?_⟩
  rcases h.2 with ⟨rfl, h0⟩ | ⟨g, cap, cur, rfl, hb, hgg, hcap, _, hcs, htk⟩
  · exact ⟨none, 0, by rw [h0], by omega, .inl h0⟩
  · refine ⟨_, cap, rfl, hcap, .inr ⟨g, 0, rfl, fun j u hj => ?_⟩⟩
    have := h.cells (g := g) rfl j u hj
    rw [show ((⟨g, 0, none⟩ : Addr).add j) = ⟨g, 0 + j, none⟩ from by unfold Addr.add; split <;> simp_all] at this
    exact this
/-- one cell of an element -/
theorem Rd.at {k : Nat} {w : World} {ad : Option Addr} {n cap : Nat} {xs : List Value} (h : Rd k w (.slice ad n cap) n xs) {i : Nat} (hi : i < n) :
    ∃ b off, ad = some ⟨b, off, none⟩ ∧ ∀ c u, xs[i * k + c]? = some u → w.cell? ⟨b, off + i * k + c, none⟩ = some u := by
  obtain ⟨hl, ad', cap', hv, hc, h⟩ := h
  simp only [Value.slice.injEq] at hv
  obtain ⟨rfl, _, rfl⟩ := hv
  rcases h with h | ⟨bl, off, rfl, hcell⟩
  · omega
  · exact ⟨bl, off, rfl, fun c u hu => by rw [Nat.add_assoc]; exact hcell _ u hu⟩
theorem Rd.slice {k : Nat} {w : World} {v : Value} {n : Nat} {xs : List Value} (h : Rd k w v n xs) : ∃ ad cap, v = .slice ad n cap ∧ n ≤ cap := by
  obtain ⟨_, ad, cap, rfl, hc, _⟩ := h
  exact ⟨ad, cap, rfl, hc⟩
/-- cells of elements of two cells each -/
def cells2 {α : Type} (f g : α → Value) (l : List α) : List Value := l.flatMap fun x => [f x, g x]
theorem cells2_length {α : Type} (f g : α → Value) (l : List α) : (cells2 f g l).length = l.length * 2 := by
  induction l with
  | nil => rfl
  | cons p rs ih => simp only [cells2, List.flatMap_cons, List.length_append, List.length_cons, List.length_nil] at ih ⊢; omega
theorem cells2_snoc {α : Type} (f g : α → Value) (l : List α) (x : α) : cells2 f g (l ++ [x]) = cells2 f g l ++ [f x, g x] := by simp [cells2]
theorem cells2_get {α : Type} (f g : α → Value) : ∀ (l : List α) (i : Nat) (x : α), l[i]? = some x → (cells2 f g l)[i * 2]? = some (f x) ∧ (cells2 f g l)[i * 2 + 1]? = some (g x)
  | [], i, x, h => by simp at h
  | a :: l, 0, x, h => by
    simp only [List.getElem?_cons_zero, Option.some.injEq] at h
    subst h
    exact ⟨rfl, rfl⟩
  | a :: l, i + 1, x, h => by
    have e1 : (i + 1) * 2 = i * 2 + 2 := by omega
    have ih := cells2_get f g l i x (by simpa using h)
    have e : cells2 f g (a :: l) = f a :: g a :: cells2 f g l := by simp [cells2]
    rw [e1, e]
    exact ⟨by simpa using ih.1, by rw [show i * 2 + 2 + 1 = (i * 2 + 1) + 1 + 1 by omega]; simpa using ih.2⟩
theorem Rd.at2 {α : Type} {f g : α → Value} {w : World} {ad : Option Addr} {n cap : Nat} {l : List α} (h : Rd 2 w (.slice ad n cap) n (cells2 f g l)) {i : Nat} {x : α} (hx : l[i]? = some x) :
    ∃ b off, ad = some ⟨b, off, none⟩ ∧ w.cell? ⟨b, off + i * 2, none⟩ = some (f x) ∧ w.cell? ⟨b, off + i * 2 + 1, none⟩ = some (g x) := by
  have hi : i < n := by
    have h1 := h.1
    rw [cells2_length] at h1
    have := (List.getElem?_eq_some_iff.1 hx).1
    omega
  obtain ⟨b, off, e, hc⟩ := h.at hi
  obtain ⟨g1, g2⟩ := cells2_get f g l i x hx
  exact ⟨b, off, e, hc 0 _ (by simpa using g1), hc 1 _ g2⟩
end Go.Proofs.YtnoodiibkchaaaaGreatDoor
namespace Go.Proofs.YtnoodiibkchaaaaGreatDoor
open Go.RowKit

theorem less_flip : ∀ a b : List UInt8, Op.bytesLess b a = (!(Op.bytesLess a b) && !(a == b))
  | [], [] => by simp [Op.bytesLess]
  | [], _ :: _ => by simp [Op.bytesLess]
  | _ :: _, [] => by simp [Op.bytesLess]
  | x :: a, y :: b => by
    have ih := less_flip a b
    simp only [Op.bytesLess]
    rcases Nat.lt_trichotomy x.toNat y.toNat with h | h | h
    · have h1 : x < y := h
      have h2 : ¬ y < x := fun e => by have : y.toNat < x.toNat := e; omega
      have h3 : ¬ (x = y) := fun e => by rw [e] at h; omega
      simp [h1, h2]
      exact fun e => absurd e.symm h3
    · have e : x = y := UInt8.toNat_inj.1 h
      subst e
      simp [ih]
    · have h1 : ¬ x < y := fun e => by have : x.toNat < y.toNat := e; omega
      have h2 : y < x := h
      have h3 : ¬ (x = y) := fun e => by rw [e] at h; omega
      simp [h1, h2, h3]
theorem less_irrefl : ∀ a : List UInt8, Op.bytesLess a a = false
  | [] => rfl
  | x :: a => by
    simp only [Op.bytesLess]
    simp [less_irrefl a]
/-- -1, 0 or 1 -/
def ordS (a b : ByteArray) : Int := if Op.bytesLess a.toList b.toList = true then -1 else if (a.toList == b.toList) = true then 0 else 1
theorem toList_inj' {a b : ByteArray} (h : (a.toList == b.toList) = true) : a = b := by
  have h := (beq_iff_eq).1 h
  rw [Lib.toList_data, Lib.toList_data] at h
  exact ByteArray.ext (Array.toList_inj.1 h)
theorem ordS_zero {a b : ByteArray} : ordS a b = 0 ↔ a = b := by
  unfold ordS
  constructor
  · intro h
    split at h
    · cases h
    · split at h
      · rename_i h2; exact toList_inj' h2
      · cases h
  · rintro rfl
    rw [if_neg (by rw [less_irrefl]; decide), if_pos (by simp)]
abbrev Lab := ByteArray × ByteArray
/-- one label's error -/
def labE (x : Lab) : Int := if x.1.size = 0 then 17 else if 65535 < x.1.size ∨ 65535 < x.2.size then 7 else 0
/-- the error of labels behind a label -/
def chkE : Option Lab → List Lab → Int
  | _, [] => 0
  | p, x :: r =>
    if labE x ≠ 0 then labE x
    else match p with
      | none => chkE (some x) r
      | some q => if ordS q.1 x.1 = 0 then 18 else if ordS q.1 x.1 = 1 then 16 else chkE (some x) r
/-- comparing labels -/
def cmpL : List Lab → List Lab → Int
  | [], [] => 0
  | [], _ :: _ => -1
  | _ :: _, [] => 1
  | x :: a, y :: b => if ordS x.1 y.1 ≠ 0 then ordS x.1 y.1 else if ordS x.2 y.2 ≠ 0 then ordS x.2 y.2 else cmpL a b
theorem cmpL_zero : ∀ a b : List Lab, cmpL a b = 0 ↔ a = b
  | [], [] => by simp [cmpL]
  | [], _ :: _ => by simp [cmpL]
  | _ :: _, [] => by simp [cmpL]
  | (x1, x2) :: a, (y1, y2) :: b => by
    have ih := cmpL_zero a b
    unfold cmpL
    by_cases h1 : ordS x1 y1 = 0
    · by_cases h2 : ordS x2 y2 = 0
      · rw [if_neg (by simpa using h1), if_neg (by simpa using h2), ih]
        rw [ordS_zero.1 h1, ordS_zero.1 h2]
        simp
      · rw [if_neg (by simpa using h1), if_pos (by simpa using h2)]
        constructor
        · intro h; exact absurd h h2
        · intro h
          simp only [List.cons.injEq, Prod.mk.injEq] at h
          exact absurd (ordS_zero.2 h.1.2) h2
    · rw [if_pos (by simpa using h1)]
      constructor
      · intro h; exact absurd h h1
      · intro h
        simp only [List.cons.injEq, Prod.mk.injEq] at h
        exact absurd (ordS_zero.2 h.1.1) h1
def labF (x : Lab) : Value := .string x.1
def labG (x : Lab) : Value := .string x.2
/-- the cells of labels -/
def labC (l : List Lab) : List Value := cells2 labF labG l
def labV (x : Lab) : Value := .agg #[.string x.1, .string x.2]
/-- v reads as these labels -/
def RdL (w : World) (v : Value) (l : List Lab) : Prop := Rd 2 w v l.length (labC l)
theorem RdL.below {a b : World} {v : Value} {l : List Lab} (h : RdL a v l) (hb : Below a.heap.size a b) : RdL b v l := Rd.below h hb
theorem RdL.at {w : World} {ad : Option Addr} {cap : Nat} {l : List Lab} (h : RdL w (.slice ad l.length cap) l) {i : Nat} {x : Lab} (hx : l[i]? = some x) :
    ∃ b off, ad = some ⟨b, off, none⟩ ∧ w.cell? ⟨b, off + i * 2, none⟩ = some (.string x.1) ∧ w.cell? ⟨b, off + i * 2 + 1, none⟩ = some (.string x.2) := Rd.at2 (f := labF) (g := labG) h hx
end Go.Proofs.YtnoodiibkchaaaaGreatDoor
namespace Go.Proofs.YtnoodiibkchaaaaGreatDoor
open Go.RowKit

def ordI (a b : Int) : Int := if a < b then -1 else if b < a then 1 else 0
abbrev Smp := Int × Int
abbrev Ser := List Lab × List Smp
def smpF (x : Smp) : Value := .int .i64 x.1
def smpG (x : Smp) : Value := .int .u64 x.2
def smpC (l : List Smp) : List Value := cells2 smpF smpG l
/-- v reads as these samples -/
def RdS (w : World) (v : Value) (l : List Smp) : Prop := Rd 2 w v l.length (smpC l)
theorem RdS.below {a b : World} {v : Value} {l : List Smp} (h : RdS a v l) (hb : Below a.heap.size a b) : RdS b v l := Rd.below h hb
theorem RdS.at {w : World} {ad : Option Addr} {cap : Nat} {l : List Smp} (h : RdS w (.slice ad l.length cap) l) {i : Nat} {x : Smp} (hx : l[i]? = some x) :
    ∃ b off, ad = some ⟨b, off, none⟩ ∧ w.cell? ⟨b, off + i * 2, none⟩ = some (.int .i64 x.1) ∧ w.cell? ⟨b, off + i * 2 + 1, none⟩ = some (.int .u64 x.2) := Rd.at2 (f := smpF) (g := smpG) h hx
/-- the headers of series: where their labels and samples lie -/
structure Hdr where
  la : Option Addr
  ln : Nat
  lc : Nat
  sa : Option Addr
  sn : Nat
  sc : Nat
def Hdr.lv (h : Hdr) : Value := .slice h.la h.ln h.lc
def Hdr.sv (h : Hdr) : Value := .slice h.sa h.sn h.sc
def hdrC (hs : List Hdr) : List Value := cells2 Hdr.lv Hdr.sv hs
/-- v reads as these series -/
def RdH (w : World) (v : Value) (hs : List Hdr) : Prop := Rd 2 w v hs.length (hdrC hs)
/-- the headers' rows read as these series -/
def SerOk (w : World) (h : Hdr) (x : Ser) : Prop := RdL w h.lv x.1 ∧ RdS w h.sv x.2
def RdB (w : World) (v : Value) (hs : List Hdr) (b : List Ser) : Prop := hs.length = b.length ∧ RdH w v hs ∧ ∀ (i : Nat) (h : Hdr) (x : Ser), hs[i]? = some h → b[i]? = some x → SerOk w h x
theorem RdH.below {a b : World} {v : Value} {l : List Hdr} (h : RdH a v l) (hb : Below a.heap.size a b) : RdH b v l := Rd.below h hb
theorem SerOk.below {a b : World} {h : Hdr} {x : Ser} (hh : SerOk a h x) (hb : Below a.heap.size a b) : SerOk b h x := ⟨hh.1.below hb, hh.2.below hb⟩
theorem RdB.below {a b : World} {v : Value} {hs : List Hdr} {l : List Ser} (h : RdB a v hs l) (hb : Below a.heap.size a b) : RdB b v hs l := ⟨h.1, h.2.1.below hb, fun i x y h1 h2 => (h.2.2 i x y h1 h2).below hb⟩
theorem RdH.at {w : World} {ad : Option Addr} {cap : Nat} {l : List Hdr} (h : RdH w (.slice ad l.length cap) l) {i : Nat} {x : Hdr} (hx : l[i]? = some x) :
    ∃ b off, ad = some ⟨b, off, none⟩ ∧ w.cell? ⟨b, off + i * 2, none⟩ = some (.slice x.la x.ln x.lc) ∧ w.cell? ⟨b, off + i * 2 + 1, none⟩ = some (.slice x.sa x.sn x.sc) := Rd.at2 (f := Hdr.lv) (g := Hdr.sv) h hx
/-- a header's lengths -/
theorem SerOk.lens {w : World} {h : Hdr} {x : Ser} (hh : SerOk w h x) : h.ln = x.1.length ∧ h.sn = x.2.length := by
  obtain ⟨⟨_, a, c, e, _⟩, ⟨_, a', c', e', _⟩⟩ := hh
  simp only [Hdr.lv, Hdr.sv, Value.slice.injEq] at e e'
  exact ⟨e.2.1, e'.2.1⟩
/-- elements that must ascend: the error of equal ones is eq, of others 16 -/
def ascE {α : Type} (c : α → α → Int) (eq : Int) : List α → Int
  | [] => 0
  | [_] => 0
  | x :: y :: r => if c x y = 0 then eq else if 0 < c x y then 16 else ascE c eq (y :: r)
def cmpT (x y : Smp) : Int := ordI x.1 y.1
def serE (x : Ser) : Int := if chkE none x.1 ≠ 0 then chkE none x.1 else if x.2.length = 0 then 21 else ascE cmpT 20 x.2
def cmpB (x y : Ser) : Int := cmpL x.1 y.1
/-- the error of the series behind a series -/
def bloE : Option Ser → List Ser → Int
  | _, [] => 0
  | p, x :: r =>
    if serE x ≠ 0 then serE x
    else match p with
      | none => bloE (some x) r
      | some q => if cmpB q x = 0 then 19 else if 0 < cmpB q x then 16 else bloE (some x) r
def samplesN : List Ser → Nat
  | [] => 0
  | x :: r => x.2.length + samplesN r
def modE (b : List Ser) : Int := if 1048576 < b.length ∨ 16777216 < samplesN b then 7 else bloE none b
theorem samplesN_drop (b : List Ser) : ∀ k, samplesN (b.take k) + samplesN (b.drop k) = samplesN b := by
  induction b with
  | nil => intro k; simp [samplesN]
  | cons x r ih =>
    intro k
    cases k with
    | zero => simp [samplesN]
    | succ k => simp only [List.take_succ_cons, List.drop_succ_cons, samplesN]; have := ih k; omega
theorem samplesN_take (b : List Ser) (k : Nat) (x : Ser) (h : b[k]? = some x) : samplesN (b.take (k + 1)) = samplesN (b.take k) + x.2.length := by
  have h1 := samplesN_drop b k
  have h2 := samplesN_drop b (k + 1)
  obtain ⟨hk, e⟩ := List.getElem?_eq_some_iff.1 h
  rw [List.drop_eq_getElem_cons hk, e] at h1
  simp only [samplesN] at h1
  omega
theorem samplesN_le (b : List Ser) (k : Nat) : samplesN (b.take k) ≤ samplesN b := by have := samplesN_drop b k; omega
end Go.Proofs.YtnoodiibkchaaaaGreatDoor
