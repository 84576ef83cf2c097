/-
  PLAIN: append to a slice that the call owns, as Laws/AppendOwn says it, and one thing more: the result lies in the old block or in a new one. No program in sight.
  PLAIN: append to a slice that the call owns, for elements of any number of cells: in a list of operations, in a drawn region, of whatever a slice reads as. No walk here.
-/
import Derived.WalkKit
import Derived.Test.YtnoodiibkchaaaaGreatDoorXMem
import Derived.Deep.AppendLies
namespace Go.Proofs.YtnoodiibkchaaaaGreatDoor
open Go.RowKit
section
variable {P : Program} (w : World)
theorem run_append_new (base : Nat) (t ty e : TypeId) (i : TypeInfo) (z : Value) (size bytes : Nat) (ht : P.underlying t = some (.slice e)) (hi : P.info? e = some i) (hz : i.zero = some z)
    (hsize : i.size = size) (hby : i.bytes = bytes) (hzs : z.cells.size = size) (hsz : 0 < size)
    (v : Value) (n : Nat) (xs : List Value) (hown : w.ownsRow base e size v n xs)
    (a : Addr) (m c : Nat) (news : List Value) (hl : news.length = m * size) (hnews : ∀ j u, news[j]? = some u → w.cell? (a.add j) = some u) (h1 : ∀ u ∈ news, u.oneCell' = true)
    (h63 : n + m ≤ maxLen) (hbytes : (n + m) * bytes ≤ 140737488355328) (hbase : base ≤ w.heap.size) :
    ∃ v' w', (Builtin.append_ #[t, t] ty #[v, .slice (some a) m c]).run P w = .ok v' w' ∧ w'.ownsRow base e size v' (n + m) (xs ++ news) ∧ w.grownBy w' v.ownBlock ∧
      (v' = .slice none 0 0 ↔ v = .slice none 0 0 ∧ m = 0) ∧ (∀ g, v'.ownBlock = some g → v.ownBlock = some g ∨ w.heap.size ≤ g) := by
  obtain ⟨v', w', hr, ho, hg, hn⟩ := run_append_own (P := P) w base t ty e i z size bytes ht hi hz hsize hby hzs hsz v n xs hown a m c news hl hnews h1 h63 hbytes hbase
  refine ⟨v', w', hr, ho, hg, hn, fun g hgb => ?_⟩
  subst hsize
  subst hby
  rcases hown.2 with ⟨rfl, rfl⟩ | ⟨g0, cap, cur, rfl, hbg, hg0, hnc, hcm, hcs, htake⟩
  · obtain ⟨v2, w2, hr2, ho2, _⟩ := run_append_own (P := P) w w.heap.size t ty e i z i.size i.bytes ht hi hz rfl rfl hzs hsz (.slice none 0 0) 0 xs ⟨hown.1, .inl ⟨rfl, rfl⟩⟩ a m c news hl hnews h1 h63 hbytes (Nat.le_refl _)
    rw [hr] at hr2
    simp only [Result.ok.injEq] at hr2
    obtain ⟨rfl, rfl⟩ := hr2
    exact .inr (ho2.lt g hgb).1
  · by_cases hroom : n + m ≤ cap
    · have hfit : n * i.size + news.length ≤ cur.size := by rw [hl, hcs, ← Nat.add_mul]; exact Nat.mul_le_mul_right _ hroom
      have hr2 := run_append_room (P := P) w t ty e i ht hi g0 n cap cur hg0 a m c news hl hnews h1 hroom hfit
      rw [hr] at hr2
      simp only [Result.ok.injEq] at hr2
      obtain ⟨rfl, rfl⟩ := hr2
      exact .inl hgb
    · have holds : ∀ j u, xs[j]? = some u → w.cell? ((⟨g0, 0, none⟩ : Addr).add j) = some u := hown.cells (g := g0) rfl
      have h63' : n + m ≤ 9223372036854775807 := by simp only [maxLen] at h63; omega
      have hr2 := run_append_grow (P := P) w t ty e i z ht hi hz ⟨g0, 0, none⟩ n cap xs hown.1 holds a m c news hl hnews (by omega) (by omega) (growslice_fits (by omega) hbytes)
      rw [hr] at hr2
      simp only [Result.ok.injEq] at hr2
      obtain ⟨rfl, rfl⟩ := hr2
      simp only [Value.ownBlock, Option.some.injEq] at hgb
      exact .inr (Nat.le_of_eq hgb)
theorem wpList_append_new {ops : Array Oper} {rest : List Oper} {o : Oper} {a : Act} {Q : Exit → Act → World → Prop} (hgd : o.guard = none) (s x : Operand) (t : TypeId)
    (ho : o.op = .call { callee := .builtin .append, args := #[s, x], argTypes := #[t, t] })
    (base : Nat) (e : TypeId) (i : TypeInfo) (z : Value) (size bytes : Nat) (ht : P.underlying t = some (.slice e)) (hi : P.info? e = some i) (hz : i.zero = some z)
    (hsize : i.size = size) (hby : i.bytes = bytes) (hzs : z.cells.size = size) (hsz : 0 < size)
    (v : Value) (n : Nat) (xs : List Value) (hs : a.eval s = v) (hown : w.ownsRow base e size v n xs)
    (ad : Addr) (m c : Nat) (news : List Value) (hx : a.eval x = .slice (some ad) m c) (hl : news.length = m * size) (hnews : ∀ j u, news[j]? = some u → w.cell? (ad.add j) = some u) (h1 : ∀ u ∈ news, u.oneCell' = true)
    (h63 : n + m ≤ maxLen) (hbytes : (n + m) * bytes ≤ 140737488355328) (hbase : base ≤ w.heap.size)
    (h : ∀ v' w', w'.ownsRow base e size v' (n + m) (xs ++ news) → w.grownBy w' v.ownBlock → (∀ g, v'.ownBlock = some g → v.ownBlock = some g ∨ w.heap.size ≤ g) → wpList P ops Q rest (a.put o.dst v') w') : wpList P ops Q (o :: rest) a w := by
  obtain ⟨v', w', hr, h2, h3, _, h4⟩ := run_append_new (P := P) w base t o.type e i z size bytes ht hi hz hsize hby hzs hsz v n xs hown ad m c news hl hnews h1 h63 hbytes hbase
  refine wpList_plain hgd fun K hK => ?_
  unfold Oper.wp execOp
  simp only [ho, resolve, invoke, builtin, Sem.run_bind, Sem.run_pure, Result.andThen_ok, List.map_toArray, List.map_cons, List.map_nil, hs, hx, hr]
  exact hK _ _ (h v' w' h2 h3 h4)
end
#print axioms wpList_append_new
end Go.Proofs.YtnoodiibkchaaaaGreatDoor
namespace Go.Proofs.YtnoodiibkchaaaaGreatDoor
open Go.RowKit

/-- a slice type, its elements' type and cells -/
structure ElT (P : Program) (t e : TypeId) (k L : Nat) : Prop where
  ht : P.underlying t = some (.slice e)
  hi : ∃ i z, P.info? e = some i ∧ i.zero = some z ∧ i.size = k ∧ L * i.bytes ≤ 140737488355328 ∧ z.cells.size = k
  hk : 0 < k
  hL : L ≤ maxLen
theorem infoS : (Tryz.prog.info? 9).map (fun i => (i.zero, i.size, i.bytes)) = some (some (.string { data := #[] }), 1, 16) := by kernel_rfl
theorem infoL : (Tryz.prog.info? 46).map (fun i => (i.zero, i.size, i.bytes)) = some (some (.agg #[.string { data := #[] }, .string { data := #[] }]), 2, 32) := by kernel_rfl
theorem infoX : (Tryz.prog.info? 53).map (fun i => (i.zero, i.size, i.bytes)) = some (some (.agg #[.slice none 0 0, .slice none 0 0]), 2, 48) := by kernel_rfl
theorem infoM : (Tryz.prog.info? 56).map (fun i => (i.zero, i.size, i.bytes)) = some (some (.agg #[.int .i64 0, .int .u64 0]), 2, 16) := by kernel_rfl
theorem elS : ElT Tryz.prog 39 9 1 8796093022208 := ⟨Tryz.underlying39, by obtain ⟨i, h1, h2, h3, h4⟩ := info_parts infoS; exact ⟨i, _, h1, h2, h3, by rw [h4]; decide, rfl⟩, by decide, by decide⟩
theorem elL : ElT Tryz.prog 37 46 2 4398046511104 := ⟨Tryz.underlying37, by obtain ⟨i, h1, h2, h3, h4⟩ := info_parts infoL; exact ⟨i, _, h1, h2, h3, by rw [h4]; decide, rfl⟩, by decide, by decide⟩
theorem elX : ElT Tryz.prog 22 53 2 2932031007402 := ⟨Tryz.underlying22, by obtain ⟨i, h1, h2, h3, h4⟩ := info_parts infoX; exact ⟨i, _, h1, h2, h3, by rw [h4]; decide, rfl⟩, by decide, by decide⟩
theorem elM : ElT Tryz.prog 51 56 2 8796093022208 := ⟨Tryz.underlying51, by obtain ⟨i, h1, h2, h3, h4⟩ := info_parts infoM; exact ⟨i, _, h1, h2, h3, by rw [h4]; decide, rfl⟩, by decide, by decide⟩
theorem bytes_ok {n m b L : Nat} (h : n + m ≤ L) (hb : L * b ≤ 140737488355328) : (n + m) * b ≤ 140737488355328 :=
  Nat.le_trans (Nat.mul_le_mul_right b h) hb
section
variable {P : Program} {t e : TypeId} {k L : Nat}
theorem run_append_E (E : ElT P t e k L) (w : World) (ty : TypeId) (B : Nat) (v x : Value) (n m : Nat) (xs ys : List Value) (hown : w.ownsRow B e k v n xs) (hx : Rd k w x m ys) (h1 : ∀ u ∈ ys, u.oneCell' = true)
    (hn : n + m ≤ L) (hB : B ≤ w.heap.size) :
    ∃ v' w', (Builtin.append_ #[t, t] ty #[v, x]).run P w = .ok v' w' ∧ w'.ownsRow B e k v' (n + m) (xs ++ ys) ∧ w.grownBy w' v.ownBlock ∧ (∀ g, v'.ownBlock = some g → v.ownBlock = some g ∨ w.heap.size ≤ g) := by
  obtain ⟨i, z, hi, hz, hsz, hby, hzs⟩ := E.hi
  obtain ⟨hl, ad, cap, rfl, hc, h⟩ := hx
  cases ad with
  | none =>
    have hm : m = 0 := by
      rcases h with h | ⟨b, off, hb, _⟩
      · exact h
      · cases hb
    subst hm
    obtain rfl : ys = [] := List.eq_nil_of_length_eq_zero (by rw [hl]; omega)
    obtain ⟨a2, c2, rfl⟩ := row_slice hown
    have hcc : n ≤ c2 := by
      rcases hown.2 with ⟨hv, h0⟩ | ⟨g, c3, cur, hv, _, _, h3, _⟩
      · omega
      · simp only [Value.slice.injEq] at hv; omega
    refine ⟨.slice a2 n c2, w, ?_, by simpa using hown, ⟨rfl, rfl, rfl, Nat.le_refl _, fun _ _ _ => rfl⟩, fun g hg => .inl hg⟩
    cases a2 <;> simp [Builtin.append_, run_underlying E.ht, sizeOf, typeInfo, hi, Builtin.lenOf, hcc, Builtin.firstCells, storeCells]
  | some a =>
    have hcell : ∀ j u, ys[j]? = some u → w.cell? (a.add j) = some u := by
      intro j u hj
      rcases h with h | ⟨b, off, hb, h⟩
      · subst h
        have : ys = [] := List.eq_nil_of_length_eq_zero (by rw [hl]; omega)
        subst this
        simp at hj
      · obtain rfl := Option.some.inj hb
        rw [show ((⟨b, off, none⟩ : Addr).add j) = ⟨b, off + j, none⟩ from by unfold Addr.add; split <;> simp_all]
        exact h j u hj
    obtain ⟨v', w', hr, ho, hg, _, hn2⟩ := run_append_new (P := P) w B t ty e i z k i.bytes E.ht hi hz hsz rfl hzs E.hk v n xs hown a m cap ys hl hcell h1 (Nat.le_trans hn E.hL) (bytes_ok hn hby) hB
    exact ⟨v', w', hr, ho, hg, hn2⟩
theorem wantList {w : World} {ops : Array Oper} {rest : List Oper} {o : Oper} {a : Act} {Q : Exit → Act → World → Prop} (hg : Region.wanted o (yielded ops a.tmps) = true)
    (h : ∀ K : Act → World → Prop, (∀ a w, wpList P ops Q rest a w → K a w) → o.wp P a w K Q) : wpList P ops Q (o :: rest) a w :=
  wpList_step fun K hK => by rw [if_pos hg]; exact h K hK
theorem wp_append_E (E : ElT P t e k L) {w : World} {o : Oper} {a : Act} {K : Act → World → Prop} {Q : Exit → Act → World → Prop} (s x : Operand)
    (ho : o.op = .call { callee := .builtin .append, args := #[s, x], argTypes := #[t, t] }) (B : Nat) (v y : Value) (n m : Nat) (xs ys : List Value) (hs : a.eval s = v) (hxe : a.eval x = y)
    (hown : w.ownsRow B e k v n xs) (hx : Rd k w y m ys) (h1 : ∀ u ∈ ys, u.oneCell' = true) (hn : n + m ≤ L) (hB : B ≤ w.heap.size)
    (h : ∀ v' w', w'.ownsRow B e k v' (n + m) (xs ++ ys) → w.grownBy w' v.ownBlock → (∀ g, v'.ownBlock = some g → v.ownBlock = some g ∨ w.heap.size ≤ g) → K (a.put o.dst v') w') : o.wp P a w K Q := by
  obtain ⟨v', w', hr, h2, h3, h4⟩ := run_append_E E w o.type B v y n m xs ys hown hx h1 hn hB
  unfold Oper.wp execOp
  simp only [ho, resolve, invoke, builtin, Sem.run_bind, Sem.run_pure, Result.andThen_ok, List.map_toArray, List.map_cons, List.map_nil, hs, hxe, hr]
  exact h v' w' h2 h3 h4
/-- in a list of operations -/
theorem appE (E : ElT P t e k L) {w : World} {ops : Array Oper} {rest : List Oper} {o : Oper} {a : Act} {Q : Exit → Act → World → Prop} (hgd : o.guard = none) (s x : Operand)
    (ho : o.op = .call { callee := .builtin .append, args := #[s, x], argTypes := #[t, t] }) (B : Nat) (v y : Value) (n m : Nat) (xs ys : List Value) (hs : a.eval s = v) (hxe : a.eval x = y)
    (hown : w.ownsRow B e k v n xs) (hx : Rd k w y m ys) (h1 : ∀ u ∈ ys, u.oneCell' = true) (hn : n + m ≤ L) (hB : B ≤ w.heap.size)
    (h : ∀ v' w', w'.ownsRow B e k v' (n + m) (xs ++ ys) → w.grownBy w' v.ownBlock → (∀ g, v'.ownBlock = some g → v.ownBlock = some g ∨ w.heap.size ≤ g) → wpList P ops Q rest (a.put o.dst v') w') : wpList P ops Q (o :: rest) a w :=
  wpList_plain hgd fun _ hK => wp_append_E E s x ho B v y n m xs ys hs hxe hown hx h1 hn hB fun v' w' h2 h3 h4 => hK _ _ (h v' w' h2 h3 h4)
/-- in a drawn region -/
theorem sappE (E : ElT P t e k L) {w : World} {ops : Array Oper} {o : Oper} {a : Act} {K : Act → World → Prop} {Q : Exit → Act → World → Prop} {F : Prop} (hgd : o.guard = none) (s x : Operand)
    (ho : o.op = .call { callee := .builtin .append, args := #[s, x], argTypes := #[t, t] }) (B : Nat) (v y : Value) (n m : Nat) (xs ys : List Value) (hs : a.eval s = v) (hxe : a.eval x = y)
    (hown : w.ownsRow B e k v n xs) (hx : Rd k w y m ys) (h1 : ∀ u ∈ ys, u.oneCell' = true) (hn : n + m ≤ L) (hB : B ≤ w.heap.size)
    (h : ∀ v' w', w'.ownsRow B e k v' (n + m) (xs ++ ys) → w.grownBy w' v.ownBlock → (∀ g, v'.ownBlock = some g → v.ownBlock = some g ∨ w.heap.size ≤ g) → K (a.put o.dst v') w') : if Region.wanted o (yielded ops a.tmps) = true then Oper.wp P o a w K Q else F := by
  have hw : Region.wanted o (yielded ops a.tmps) = true := by simp [Region.wanted, hgd]
  rw [if_pos hw]
  exact wp_append_E E s x ho B v y n m xs ys hs hxe hown hx h1 hn hB h
end
/-- a new block reads as its cells -/
theorem rd_new (w : World) (k m : Nat) (cs : List Value) (te : TypeId) (c : Nat) (hl : cs.length = m * k) (hc : m ≤ c) : Rd k (w.alloc (.cells cs.toArray te)) (.slice (some ⟨w.heap.size, 0, none⟩) m c) m cs :=
  ⟨hl, _, c, rfl, hc, .inr ⟨w.heap.size, 0, rfl, fun j u hj => by rw [Nat.zero_add, cell_of_row _ _ _ _ _ _ (heap_alloc_new w _)]; simpa using hj⟩⟩
/-- what a row that grew leaves below its base -/
theorem below_grown {w w' : World} {B n k : Nat} {e : TypeId} {v : Value} {xs : List Value} (hown : w.ownsRow B e k v n xs) (hg : w.grownBy w' v.ownBlock) (hB : B ≤ w.heap.size) : Below B w w' :=
  (Below.refl B w).grown hg hB (fun k hk => (hown.lt k hk).1)
/-- strings as cells -/
def strC (ss : List ByteArray) : List Value := ss.map Value.string
def RdT (w : World) (v : Value) (ss : List ByteArray) : Prop := Rd 1 w v ss.length (strC ss)
theorem RdT.below {a b : World} {v : Value} {l : List ByteArray} (h : RdT a v l) (hb : Below a.heap.size a b) : RdT b v l := Rd.below h hb
theorem RdT.at {w : World} {ad : Option Addr} {cap : Nat} {l : List ByteArray} (h : RdT w (.slice ad l.length cap) l) {i : Nat} {x : ByteArray} (hx : l[i]? = some x) :
    ∃ b off, ad = some ⟨b, off, none⟩ ∧ w.cell? ⟨b, off + i, none⟩ = some (.string x) := by
  obtain ⟨b, off, e, h⟩ := Rd.at h (List.getElem?_eq_some_iff.1 hx).1
  exact ⟨b, off, e, by have := h 0 (.string x) (by simp [strC, hx]); simpa using this⟩
theorem strC_one (ss : List ByteArray) : ∀ u ∈ strC ss, u.oneCell' = true := by
  intro u hu
  obtain ⟨x, _, rfl⟩ := List.mem_map.1 hu
  rfl
end Go.Proofs.YtnoodiibkchaaaaGreatDoor
