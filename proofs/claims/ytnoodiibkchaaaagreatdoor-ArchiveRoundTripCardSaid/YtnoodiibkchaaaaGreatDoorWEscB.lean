/-
  WALKS: strings.Builder in the words of this chapter (a builder that holds a list of bytes); what lies in memory beside it.
-/
import Derived.Test.YtnoodiibkchaaaaGreatDoorPEsc
import Derived.Test.YtnoodiibkchaaaaGreatDoorWEscA
import Derived.Test.YtnoodiibkchaaaaGreatDoorShelf
import Derived.WalkKit
import Derived.BigCall
import Derived.Lib.Hide
namespace Go.Proofs.YtnoodiibkchaaaaGreatDoor
open Go.RowKit

/-- numbers as bytes -/
def u8L (l : List Nat) : List UInt8 := l.map UInt8.ofNat
theorem u8L_append (a b : List Nat) : u8L (a ++ b) = u8L a ++ u8L b := List.map_append
theorem u8L_length (a : List Nat) : (u8L a).length = a.length := List.length_map _
/-- a string of these bytes -/
def strOf (l : List Nat) : ByteArray := ⟨(u8L l).toArray⟩
/-- block b is a strings.Builder of this call's own that holds these bytes -/
def Bld (w : World) (b : Nat) (l : List Nat) : Prop := Lib.IsBuilderF 61 5 b b (Lib.byteCells (u8L l)) w
/-- what a builder's method leaves as it was -/
structure Beside (b : Nat) (w w' : World) : Prop where
  low : Below b w w'
  iter : ∀ k s pos, k ≠ b → w.heap[k]? = some (.stringIter s pos) → w'.heap[k]? = some (.stringIter s pos)
theorem Beside.of {b : Nat} {w w' : World} (h : Below b w w') (k : Lib.OthersKept 5 (some b) w w') : Beside b w w' := ⟨h, fun _ _ _ hb hk => k.iter hk hb⟩
theorem Beside.trans {b : Nat} {w w' w'' : World} (h : Beside b w w') (k : Beside b w' w'') : Beside b w w'' := ⟨h.low.trans k.low, fun j s pos hb hk => k.iter j s pos hb (h.iter j s pos hb hk)⟩
theorem Beside.ofBelow {b : Nat} {w w' : World} (h : Below w.heap.size w w') (hb : b ≤ w.heap.size) : Beside b w w' :=
  ⟨h.mono hb, fun k s pos _ hk => by rw [h.block k (Array.getElem?_eq_some_iff.1 hk).1]; exact hk⟩
theorem Bld.lt {w : World} {b : Nat} {l : List Nat} (h : Bld w b l) : b < w.heap.size := by
  rcases h with h | h <;> exact h.lt
theorem atF_below {T e : TypeId} {b : Nat} {p : Value} {bs : List Value} {w w' : World} (h : Lib.BuilderAtF T e b b p bs w) (k : Below w.heap.size w w') : Lib.BuilderAtF T e b b p bs w' := by
  obtain ⟨hB, v, hb, hown, hne⟩ := h
  refine ⟨hB, v, by rw [k.block b (Array.getElem?_eq_some_iff.1 hb).1]; exact hb, ?_, hne⟩
  obtain ⟨hl, h0 | ⟨g, cap, cur, fz, h1, h2, h3, h4⟩⟩ := hown
  · exact ⟨hl, .inl h0⟩
  · exact ⟨hl, .inr ⟨g, cap, cur, fz, h1, h2, by rw [k.block g (Array.getElem?_eq_some_iff.1 h3).1]; exact h3, h4⟩⟩
theorem Bld.below {w w' : World} {b : Nat} {l : List Nat} (h : Bld w b l) (k : Below w.heap.size w w') : Bld w' b l := by
  rcases h with h | h
  · exact .inl (atF_below h k)
  · exact .inr (atF_below h k)
theorem Bld.fresh (w : World) : Bld (w.alloc (.cells #[.pointer none, .slice none 0 0] 61)) w.heap.size [] := Lib.IsBuilderF.of (Lib.fresh_isBuilder 61 5 w)
theorem Bld.alloc {w : World} {b : Nat} {l : List Nat} (h : Bld w b l) (o : Obj) : Bld (w.alloc o) b l := Lib.IsBuilderF.alloc h o
theorem Bld.iterAt {w : World} {b k pos : Nat} {s : ByteArray} {l : List Nat} (h : Bld w b l) (hk : w.heap[k]? = some (.stringIter s pos)) (pos' : Nat) : Bld (w.iterAt k s pos') b l := Lib.IsBuilderF.iterAt h hk pos'
theorem byteCells_one' (c : Nat) (hc : c < 256) : Lib.byteCells (u8L [c]) = [.int .u8 (c : Int)] := by
  simp only [u8L, Lib.byteCells, List.map_cons, List.map_nil, UInt8.toNat_ofNat']
  rw [show c % 2 ^ 8 = c by omega]
theorem wbyte_any (b : Nat) (l : List Nat) (c : Nat) (w : World) (h : Bld w b l) (hc : c < 256) (hl : l.length + 1 ≤ 140737488355328) :
    Calls Tryz.prog 70 #[.pointer (some ⟨b, 0, none⟩), .int .u8 (c : Nat)] w fun e w' => e = .returned .nilIface ∧ Bld w' b (l ++ [c]) ∧ Beside b w w' := by
  have hlt := h.lt
  refine (Tryz.Builder_WriteByte_k b b _ (c : Nat) w h (by rw [Lib.byteCells_length, u8L_length]; exact hl) (Nat.le_of_lt hlt)).mono ?_
  rintro e w' ⟨rfl, h1, h2, h3⟩
  refine ⟨rfl, ?_, .of h2 h3⟩
  rw [Bld, u8L_append, Lib.byteCells_append, byteCells_one' c hc]
  exact .inr h1
theorem wbyte_lit (b : Nat) (l : List Nat) (c : Nat) (z : Int) (w : World) (h : Bld w b l) (hc : c < 256) (hl : l.length + 1 ≤ 140737488355328) (hz : ((c : Nat) : Int) = z) :
    Calls Tryz.prog 70 #[.pointer (some ⟨b, 0, none⟩), .int .u8 z] w fun e w' => e = .returned .nilIface ∧ Bld w' b (l ++ [c]) ∧ Beside b w w' := by
  rw [← hz]; exact wbyte_any b l c w h hc hl
theorem wrune_any (b : Nat) (l : List Nat) (c : Nat) (z : Int) (w : World) (h : Bld w b l) (hc : c < 128) (hz : ((c : Nat) : Int) = z) (hl : l.length + 4 ≤ 140737488355328) :
    Calls Tryz.prog 73 #[.pointer (some ⟨b, 0, none⟩), .int .i32 z] w fun e w' => (∃ v, e = .returned v) ∧ Bld w' b (l ++ [c]) ∧ Beside b w w' := by
  subst hz
  have hlt := h.lt
  refine (Tryz.Builder_WriteRune_k b b _ (c : Nat) (by omega) (by omega) w h (by rw [Lib.byteCells_length, u8L_length]; exact hl) (Nat.le_of_lt hlt)).mono ?_
  rintro e w' ⟨rfl, h1, h2, h3⟩
  refine ⟨⟨_, rfl⟩, ?_, .of h2 h3⟩
  have he : Lib.runeCells ((c : Nat) : Int) = [.int .u8 (c : Int)] := by
    rw [Lib.runeCells, Lib.encodeRuneZ_one (by omega) (by omega)]; rfl
  rw [Bld, u8L_append, Lib.byteCells_append, byteCells_one' c (by omega), ← he]
  exact .inr h1
theorem wstr_any (b : Nat) (l m : List Nat) (s : ByteArray) (w : World) (h : Bld w b l) (hs : s.data.toList = u8L m) (hl : l.length + m.length ≤ 140737488355328) :
    Calls Tryz.prog 28 #[.pointer (some ⟨b, 0, none⟩), .string s] w fun e w' => (∃ v, e = .returned v) ∧ Bld w' b (l ++ m) ∧ Beside b w w' := by
  have hlt := h.lt
  have hz : s.size = m.length := by
    rw [← u8L_length m, ← hs]; simp
  refine (Tryz.Builder_WriteString_k b b _ s w h (by rw [Lib.byteCells_length, u8L_length, hz]; exact hl) (Nat.le_of_lt hlt)).mono ?_
  rintro e w' ⟨rfl, h1, h2, h3⟩
  refine ⟨⟨_, rfl⟩, ?_, .of h2 h3⟩
  rw [Bld, u8L_append, Lib.byteCells_append, ← hs, ← Lib.strCells_eq]
  exact .inr h1
theorem bstr_any (b : Nat) (l : List Nat) (w : World) (h : Bld w b l) :
    Calls Tryz.prog 31 #[.pointer (some ⟨b, 0, none⟩)] w fun e w' => e = .returned (.string (strOf l)) ∧ Bld w' b l ∧ Beside b w w' := by
  have hlt := h.lt
  refine (Tryz.Builder_String_any_k b b (u8L l) w h (Nat.le_of_lt hlt)).mono ?_
  rintro e w' ⟨rfl, h1, h2, h3⟩
  exact ⟨rfl, h1, .of h2 h3⟩
theorem cut_data (s : ByteArray) (a n : Nat) (h : a + n ≤ s.size) : (s.extract a (a + n)).data.toList = u8L (cut s a n) := by
  apply List.ext_getElem?
  intro j
  have hsz : s.data.size = s.size := rfl
  by_cases hj : j < n
  · have h1 : s.get! (a + j) = s[a + j]'(by omega) := by
      simp only [ByteArray.get!]
      rw [Array.getElem!_eq_getD, Array.getD_eq_getD_getElem?, Array.getElem?_eq_getElem (by omega)]
      rfl
    have h2 : (s.extract a (a + n)).data.toList[j]? = some (s[a + j]'(by omega)) := by
      rw [ByteArray.data_extract, Array.getElem?_toList, Array.getElem?_extract]
      simp only [show j < min (a + n) s.data.size - a by omega, if_true]
      rw [Array.getElem?_eq_getElem (by omega)]
      rfl
    rw [h2]
    simp [u8L, cut, hj, bAt, h1]
  · rw [List.getElem?_eq_none (by simp; omega), List.getElem?_eq_none (by simp [u8L, cut]; omega)]
end Go.Proofs.YtnoodiibkchaaaaGreatDoor
