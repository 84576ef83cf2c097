/-
  Lemmas on which LTopTruncates rests, packed out of the texts PRange WBits SortD SortE PRange2 PRange4; each for all arguments under the hypotheses it names.
-/
import Derived.Test.YtfpcgcbehdogjaaGreatDoorT01
import Derived.RangeFuncNested
import Derived.RangeFuncBound
import Derived.RangeFuncCalls
import Derived.RangeFuncLeaves
import Derived.Shelf.Abstract
import Derived.OwnWalkIn
import Derived.WalkSpells
import Derived.WalkLawsBesides
import Derived.StillTailTactics
import Derived.Handy
namespace Go.Proofs.YtfpcgcbehdogjaaGreatDoor
section
open Go.RowKit
theorem Keeps.putObj {S : Nat → Prop} (W : World) (l : Nat) (o : Obj) (hl : S l) : Keeps S W (W.putObj l o) :=
 ⟨rfl, rfl, rfl, by simp, fun k _ hk => World.putObj_heap_other (fun e => hk (by rw [e]; exact hl))⟩
def SeqC {α : Type} (P : Program) (g : Nat) (lb : Array Value) (encs : α → Array Value) (own : Nat → Prop) (S Sp : List α → Prop) (w : World) : Prop :=
 ∀ (l : Nat) (J Jx : List α → World → Prop) (W : World), Keeps (fun k => ¬ own k) w W →
  (∀ s A B, J s A → Keeps own A B → J s B) → (∀ s A B, Jx s A → Keeps own A B → Jx s B) →
  (∀ pre x W1, J pre W1 → Sp (pre ++ [x]) → YieldAt Fence.wide 0 P l (encs x) W1 fun e W' =>
    (e = .returned (.bool true) ∧ J (pre ++ [x]) W' ∧ Keeps (fun k => ¬ own k) W1 W') ∨ (e = .returned (.bool false) ∧ Jx (pre ++ [x]) W' ∧ Keeps (fun k => ¬ own k) W1 W')) →
  J [] W →
  CallsIn Fence.wide 0 P g (#[.func (.yield l) #[] #[]] ++ lb) W fun e W' => (∃ v, e = .returned v) ∧ ((∃ xs, S xs ∧ J xs W') ∨ (∃ pre, Sp pre ∧ Jx pre W'))
def bodyC {α : Type} (T : Nat → Prop) (I : List α → World → Prop) (Ix : Code → List α → World → Prop) (xs : List α) (W : World) : Exit → Act → World → Prop
 | .normal, _, W' => Keeps T W W' ∧ I xs W'
 | .ret, _, W' => Keeps T W W' ∧ Ix .ret xs W'
 | .exit id, _, W' => Keeps T W W' ∧ Ix (.exit id) xs W'
 | .goto t, _, W' => Keeps T W W' ∧ Ix (.goto t) xs W'
 | .panic _, _, _ => False
 | .outgrown, _, _ => False
variable {P : Program}
theorem qct {α : Type} {g : Operand} {ps : Array Tmp} {assign body : Code} {Q : Exit → Act → World → Prop} {a : Act} {w : World}
 {gf : Nat} {lb : Array Value} (hg : a.eval g = .func (.func gf) #[] lb) (eg : ∀ args w, (callFunc gf args).run P w = .ok (.enter gf args) w)
 {encs : α → Array Value} {own T : Nat → Prop} {S Sp : List α → Prop} (hseq : SeqC P gf lb encs own S Sp w) (hps : ∀ x, (encs x).size = ps.size)
 (hown : ∀ k, own k → k < w.heap.size) (hT : ∀ k, T k → ¬ own k) (hT2 : ∀ k, T k → k < w.heap.size ∨ w.heap.size + 2 ≤ k)
 (I : List α → World → Prop) (Ix : Code → List α → World → Prop)
 (hI : ∀ s A B, I s A → Keeps (fun k => own k ∨ k = w.heap.size ∨ k = w.heap.size + 1) A B → I s B)
 (hIx : ∀ c s A B, Ix c s A → Keeps (fun k => own k ∨ k = w.heap.size ∨ k = w.heap.size + 1) A B → Ix c s B) (h0 : I [] w) (a₁ : α → Act)
 (hassign : ∀ (l : Nat) (x : α) (W : World) (K : Act → World → Prop), K (a₁ x) W →
   assign.wpIn (Fence.wide.inRound l) 0 P (Exit.then K (fun _ _ _ => False)) { tmps := (ps.zip (encs x)).foldl (fun t (p, v) => t.setIfInBounds p v) a.tmps, defers := [] } W)
 (hbody : ∀ (l : Nat) (pre : List α) (x : α) (W : World), I pre W → Sp (pre ++ [x]) → w.heap.size + 2 ≤ W.heap.size → body.wpIn (Fence.wide.inRound l) 0 P (bodyC T I Ix (pre ++ [x]) W) (a₁ x) W)
 (hdone : ∀ (D : Nat) (xs : List α) (W : World), S xs → I xs W → w.heap.size ≤ D → W.heap[D]? = some (.deferred (some [])) → Q .normal { a with defers := { target := .collected D, args := #[] } :: a.defers } W)
 (hstop : ∀ (D : Nat) (c : Code) (pre : List α) (W : World), Sp pre → Ix c pre W → w.heap.size ≤ D → W.heap[D]? = some (.deferred (some [])) → c.wpIn Fence.wide 0 P Q { a with defers := { target := .collected D, args := #[] } :: a.defers } W) :
 (Code.rangeFunc g ps assign body).wpIn Fence.wide 0 P Q a w := by
 refine wpIn_rangeFunc ?_
 intro fn hfn
 obtain ⟨rec, hrec⟩ : ∃ rec : LoopState → Option Code → Loop, rec = fun st pe => { state := st, pending := pe, fn, tmps := a.tmps, params := ps, assign, body, defers := w.heap.size } := ⟨_, rfl⟩
 obtain ⟨W1, hW1⟩ : ∃ W1, (w.alloc (.deferred (some []))).alloc (.loop (rec .ready none)) = W1 := ⟨_, rfl⟩
 have hL1 : W1.heap[w.heap.size + 1]? = some (.loop (rec .ready none)) := by
  rw [← hW1]; have := World.alloc_heap_new (w.alloc (.deferred (some []))) (.loop (rec .ready none)); rwa [World.size_alloc] at this
 have hK1 : W1.heap[w.heap.size]? = some (.deferred (some [])) := by
  rw [← hW1]; exact (Below.heap_alloc _ _ _ (by simp)).trans (World.alloc_heap_new w _)
 have hKW : ∀ S : Nat → Prop, Keeps S w W1 := fun S => by rw [← hW1]; exact ((Keeps.refl S w).alloc _).alloc _
 have hI1 : I [] W1 := hI _ _ _ h0 (hKW _)
 refine ⟨w.heap.size + 1, [{ target := .collected w.heap.size, args := #[] }], W1, { target := .fn (.func gf) lb, args := #[.func (.yield (w.heap.size + 1)) #[] #[]] }, W1, gf,
  #[.func (.yield (w.heap.size + 1)) #[] #[]] ++ lb, W1, ?_, ?_, ?_, ?_, (fun h => by cases h), ?_⟩
 · rw [← hW1, hrec]; exact run_enterLoop_outer _ _ _ _ _
 · simp only [resolve, hg]
   simp [go_sem]
 · intro f' _; exact trivial
 · simp [invoke, go_sem, eg]
 · have hDown : ¬ own w.heap.size := fun h => by have := hown _ h; omega
   have hLown : ¬ own (w.heap.size + 1) := fun h => by have := hown _ h; omega
   refine (hseq (w.heap.size + 1)
    (fun pre W => (I pre W ∧ w.heap.size + 2 ≤ W.heap.size) ∧ W.heap[w.heap.size + 1]? = some (.loop (rec .ready none)) ∧ W.heap[w.heap.size]? = some (.deferred (some [])))
    (fun pre W => ∃ c, Ix c pre W ∧ W.heap[w.heap.size + 1]? = some (.loop (rec .done (some c))) ∧ W.heap[w.heap.size]? = some (.deferred (some [])))
    W1 (hKW _)
    (fun s A B hs k => ⟨⟨hI s A B hs.1.1 (k.mono (fun _ _ h => .inl h)), Nat.le_trans hs.1.2 k.size⟩, k.heap hs.2.1 hLown, k.heap hs.2.2 hDown⟩)
    (fun s A B hs k => by
      obtain ⟨c, hc, hl, hk⟩ := hs
      exact ⟨c, hIx c s A B hc (k.mono (fun _ _ h => .inl h)), k.heap hl hLown, k.heap hk hDown⟩)
    ?_ ⟨⟨hI1, by have := (Array.getElem?_eq_some_iff.1 hL1).1; omega⟩, hL1, hK1⟩).mono ?_
   · rintro pre x W ⟨⟨hi, hsz⟩, hl, hk⟩ hsp
     have hlt : w.heap.size + 1 < W.heap.size := (Array.getElem?_eq_some_iff.1 hl).1
     have hy := run_yield (P := P) (args := encs x) hl (by rw [hrec]; exact hps x)
     rw [hrec] at hy
     refine ⟨fn, _, assign, body, hy, roundIn_of_wpIn hfn (hassign _ x W _ ⟨_, run_beginRound hl (by rw [hrec]), ?_⟩)⟩
     have hl2 : (W.putObj (w.heap.size + 1) (.loop { rec .ready none with state := .busy })).heap[w.heap.size + 1]? = some (.loop { rec .ready none with state := .busy }) := World.putObj_heap_same hlt
     have hk2 : (W.putObj (w.heap.size + 1) (.loop { rec .ready none with state := .busy })).heap[w.heap.size]? = some (.deferred (some [])) := (World.putObj_heap_other (by omega)).trans hk
     have hw2 : Keeps (fun k => ¬ own k) W (W.putObj (w.heap.size + 1) (.loop { rec .ready none with state := .busy })) := Keeps.putObj _ _ _ hLown
     have hi2 := hI _ _ _ hi (Keeps.putObj W (w.heap.size + 1) (.loop { rec .ready none with state := .busy }) (.inr (.inr rfl)))
     have hTn : ¬ T (w.heap.size + 1) := fun h => by rcases hT2 _ h with h | h <;> omega
     have hTd : ¬ T w.heap.size := fun h => by rcases hT2 _ h with h | h <;> omega
     refine wpIn_mono (hbody _ pre x _ hi2 hsp (by simpa using hsz)) ?_
     have fin : ∀ (jump : Option Code) (W3 : World), Keeps T (W.putObj (w.heap.size + 1) (.loop { rec .ready none with state := .busy })) W3 →
      (Instr.endRound (w.heap.size + 1) jump).run P W3 = .ok (.bool jump.isNone) (W3.putObj (w.heap.size + 1) (.loop (rec (if jump.isNone then .ready else .done) jump))) ∧
      w.heap.size + 2 ≤ W3.heap.size ∧
      (W3.putObj (w.heap.size + 1) (.loop (rec (if jump.isNone then .ready else .done) jump))).heap[w.heap.size + 1]? = some (.loop (rec (if jump.isNone then .ready else .done) jump)) ∧
      (W3.putObj (w.heap.size + 1) (.loop (rec (if jump.isNone then .ready else .done) jump))).heap[w.heap.size]? = some (.deferred (some [])) := fun jump W3 hk3 => by
      have hl3 := hk3.heap hl2 hTn
      have hr := run_endRound (P := P) jump hl3
      rw [hrec] at hr ⊢
      have hlt3 := (Array.getElem?_eq_some_iff.1 hl3).1
      exact ⟨hr, by omega, World.putObj_heap_same hlt3, (World.putObj_heap_other (by omega)).trans (hk3.heap hk2 hTd)⟩
     have put : ∀ (s : List α) (jump : Option Code) (W3 : World), I s W3 → I s (W3.putObj (w.heap.size + 1) (.loop (rec (if jump.isNone then .ready else .done) jump))) := fun s jump W3 h => hI _ _ _ h (Keeps.putObj _ _ _ (.inr (.inr rfl)))
     have putx : ∀ (c : Code) (s : List α) (jump : Option Code) (W3 : World), Ix c s W3 → Ix c s (W3.putObj (w.heap.size + 1) (.loop (rec (if jump.isNone then .ready else .done) jump))) := fun c s jump W3 h => hIx _ _ _ _ h (Keeps.putObj _ _ _ (.inr (.inr rfl)))
     rintro e a3 W3 hp
     cases e with
     | normal =>
       obtain ⟨hk3, hi3⟩ := hp
       obtain ⟨hr, hs3, hl4, hk4⟩ := fin none W3 hk3
       refine ⟨_, _, hr, .inl ⟨rfl, ⟨⟨put _ none _ hi3, by simpa using hs3⟩, hl4, hk4⟩, ?_⟩⟩
       exact (hw2.trans hk3 (fun k _ h => hT k h)).trans (Keeps.putObj (S := fun k => ¬ own k) _ _ _ hLown) (fun _ _ h => h)
     | ret =>
       obtain ⟨hk3, hi3⟩ := hp
       obtain ⟨hr, hs3, hl4, hk4⟩ := fin (some .ret) W3 hk3
       exact ⟨_, _, hr, .inr ⟨rfl, ⟨.ret, putx _ _ (some .ret) _ hi3, hl4, hk4⟩, (hw2.trans hk3 (fun k _ h => hT k h)).trans (Keeps.putObj (S := fun k => ¬ own k) _ _ _ hLown) (fun _ _ h => h)⟩⟩
     | exit id =>
       obtain ⟨hk3, hi3⟩ := hp
       obtain ⟨hr, hs3, hl4, hk4⟩ := fin (some (.exit id)) W3 hk3
       exact ⟨_, _, hr, .inr ⟨rfl, ⟨.exit id, putx _ _ (some (.exit id)) _ hi3, hl4, hk4⟩, (hw2.trans hk3 (fun k _ h => hT k h)).trans (Keeps.putObj (S := fun k => ¬ own k) _ _ _ hLown) (fun _ _ h => h)⟩⟩
     | goto t =>
       obtain ⟨hk3, hi3⟩ := hp
       obtain ⟨hr, hs3, hl4, hk4⟩ := fin (some (.goto t)) W3 hk3
       exact ⟨_, _, hr, .inr ⟨rfl, ⟨.goto t, putx _ _ (some (.goto t)) _ hi3, hl4, hk4⟩, (hw2.trans hk3 (fun k _ h => hT k h)).trans (Keeps.putObj (S := fun k => ¬ own k) _ _ _ hLown) (fun _ _ h => h)⟩⟩
     | panic ch => exact hp.elim
     | outgrown => exact hp.elim
   · rintro e W2 ⟨⟨v, rfl⟩, (⟨xs, hS, ⟨hi, _⟩, hl, hk⟩ | ⟨pre, hSp, c, hi, hl, hk⟩)⟩
     · exact ⟨none, _, by have := run_endLoop (P := P) hl (by rw [hrec]; simp); rw [hrec] at this; exact this, hdone _ xs _ hS (hI _ _ _ hi (Keeps.putObj _ _ _ (.inr (.inr rfl)))) (Nat.le_refl _) ((World.putObj_heap_other (by omega)).trans hk)⟩
     · exact ⟨some c, _, by have := run_endLoop (P := P) hl (by rw [hrec]; simp); rw [hrec] at this; exact this, hstop _ c pre _ hSp (hIx _ _ _ _ hi (Keeps.putObj _ _ _ (.inr (.inr rfl)))) (Nat.le_refl _) ((World.putObj_heap_other (by omega)).trans hk)⟩
theorem qcw {F : Fence} {n : Nat} (w : World) {ops : Array Oper} {rest : List Oper} {o : Oper} {a : Act} {Q : Exit → Act → World → Prop} (hgd : o.guard = none) (s x : Operand) (t : TypeId)
 (ho : o.op = .call { callee := .builtin .append, args := #[s, x], argTypes := #[t, t] })
 (base : Nat) (e : TypeId) (i : TypeInfo) (z : Value) (size bytes : Nat) (ht : P.underlying t = some (.slice e)) (hi : P.info? e = some i) (hz : i.zero = some z)
 (hsize : i.size = size) (hby : i.bytes = bytes) (hzs : z.cells.size = size) (hsz : 0 < size)
 (v : Value) (k : Nat) (xs : List Value) (hs : a.eval s = v) (hown : w.ownsRow base e size v k xs)
 (ad : Addr) (m c : Nat) (news : List Value) (hx : a.eval x = .slice (some ad) m c) (hl : news.length = m * size) (hnews : ∀ j u, news[j]? = some u → w.cell? (ad.add j) = some u) (h1 : ∀ u ∈ news, u.oneCell' = true)
 (h63 : k + m ≤ maxLen) (hbytes : (k + m) * bytes ≤ 140737488355328) (hbase : base ≤ w.heap.size)
 (h : ∀ v' w', w'.ownsRow base e size v' (k + m) (xs ++ news) → w.grownBy w' v.ownBlock → (∀ g, v'.ownBlock = some g → v.ownBlock = some g ∨ w.heap.size ≤ g) → wpListIn F n P ops Q rest (a.put o.dst v') w') : wpListIn F n P ops Q (o :: rest) a w := by
 refine wpListIn_plain hgd fun K hK => ?_
 obtain ⟨v', w', hr, h2, h3, _, h4⟩ := qcr (P := P) w base t o.type e i z size bytes ht hi hz hsize hby hzs hsz v k xs hown ad m c news hl hnews h1 h63 hbytes hbase
 unfold Oper.wpIn
 refine ⟨by simp [Oper.about, ho, resolve, Target.leads, Sem.run_pure], ?_⟩
 rw [Oper.semAt_plain F _ _ (by rw [ho]; intro c hc'; cases hc')]
 simp [execOp, ho, resolve, invoke, builtin, hs, hx, hr, Result.andThen]
 exact hK _ _ (h v' w' h2 h3 h4)
#print axioms qct
end
section
set_option maxHeartbeats 1000000
set_option maxRecDepth 100000
open Go.RowKit
theorem infoU8 : (Tryz.prog.info? 5).map (fun i => (i.zero, i.size, i.bytes)) = some (some (.int .u8 0), 1, 1) := by kernel_rfl
theorem newWriter_any (w : World) :
 Calls Tryz.prog 21 #[] w fun e w' => e = .returned (.pointer (some ⟨w.heap.size, 0, none⟩)) ∧ w' = w.alloc (.cells #[.slice none 0 0, .int .i64 0] 104) := by
 go_enter Tryz.func21, Tryz.ntmps21
 go_wp2
 go_ret
 exact ⟨rfl, rfl⟩
theorem newWriter_is (w : World) (base : Nat) (h : base ≤ w.heap.size) : IsW (w.alloc (.cells #[.slice none 0 0, .int .i64 0] 104)) base w.heap.size (.slice none 0 0) [] :=
 ⟨heap_alloc_new w _, World.ownsRow_nil _ _ _ _, h⟩
def Wrote (base p : Nat) (v : Value) (l : List Bool) (w w' : World) : Prop :=
 ∃ v', IsW w' base p v' l ∧ Keeps (foot p v) w w' ∧ ∀ g, v'.ownBlock = some g → v.ownBlock = some g ∨ w.heap.size ≤ g
theorem Wrote.refl {base p : Nat} {v : Value} {l : List Bool} {w : World} (h : IsW w base p v l) : Wrote base p v l w w := ⟨v, h, Keeps.refl _ _, fun _ hg => .inl hg⟩
theorem qcj (n : Nat) (h : n ≤ 9223372036854775807) : IntKind.i64.wrap (n : Int) = n := IntWalk.i64_in _ (by omega)
theorem shl_byte (m t d : Nat) (hd : d = m * 2 ^ t) (h : d < 256) : IntKind.u8.wrap ((m : Int) * 2 ^ t) = d := by
 have e : ((m : Int) * 2 ^ t) = ((m * 2 ^ t : Nat) : Int) := by simp
 rw [e, ← hd]
 exact IntWalk.u8_in _ (by omega)
theorem u8s_get {xs : List Nat} {i c : Nat} (h : xs[i]? = some c) : (u8s xs)[i]? = some (.int .u8 c) := by simp [u8s, h]
theorem take_cell {w : World} {g q n : Nat} {cur : Array Value} {e : TypeId} {xs : List Value} {v : Value} (hg : w.heap[g]? = some (.cells cur e (0, 0))) (ht : cur.toList.take n = xs) (hx : xs[q]? = some v) : w.cell? ⟨g, q, none⟩ = some v := by
 rw [cell_of_row w g q _ _ _ hg, ← Array.getElem?_toList]
 rw [← ht, List.getElem?_take] at hx
 split at hx
 · exact hx
 · cases hx
theorem IsWmid.facts {w : World} {base p q c : Nat} {v : Value} {L : List Bool} (h : IsWmid w base p v L) (hq : q = L.length / 8) (hc : c = byteAt L q) :
 ∃ g cap, v = .slice (some ⟨g, 0, none⟩) (q + 1) cap ∧ w.cell? ⟨p, 0, none⟩ = some (.slice (some ⟨g, 0, none⟩) (q + 1) cap) ∧ w.cell? ⟨p, 1, none⟩ = some (.int .i64 L.length) ∧ w.frozen? ⟨p, 1, none⟩ = false ∧
  w.cell? ⟨g, q, none⟩ = some (.int .u8 c) ∧ w.frozen? ⟨g, q, none⟩ = false ∧ ¬ g = p ∧ ¬ p = g := by
 subst hq
 obtain ⟨g, cap, cur, rfl, hgb, hgh, hcap1, hcap2, hcs, htk⟩ := qdp h.row (by omega)
 have hgp : ¬ g = p := qaf hgh h.blk (by decide)
 exact ⟨g, cap, rfl, by rw [cell_of_row w p 0 _ _ _ h.blk]; rfl, by rw [cell_of_row w p 1 _ _ _ h.blk]; rfl, frozen_of_row w p 1 _ _ h.blk, take_cell hgh htk (u8s_get (by rw [hc]; exact packedTo_at L)),
  frozen_of_row w g _ _ _ hgh, hgp, fun e => hgp e.symm⟩
theorem qki {base p : Nat} {v0 : Value} {L : List Bool} {b : Bool} {w wr : World} {g cap n q r t c d : Nat} (hW : Keeps (foot p v0) w wr) (hnew : v0.ownBlock = some g ∨ w.heap.size ≤ g)
 (hm : IsWmid wr base p (.slice (some ⟨g, 0, none⟩) n cap) L) (hq : q = L.length / 8) (hr : r = L.length % 8) (ht : t = 7 - r) (hc : c = byteAt L q) (hd : d = b.toNat * 2 ^ t) :
 Wrote base p v0 (L ++ [b]) w (((wr.setCell ⟨g, q, none⟩ (.int .u8 ((c ||| d : Nat) : Int))).setCell ⟨p, 1, none⟩ (.int .i64 (L.length + 1))).drew) := by
 refine ⟨_, hm.step hq (by rw [hc, hd, ht, hr]), ?_, fun g' hg' => ?_⟩
 · refine ((hW.setCell (p := ⟨g, q, none⟩) (fun h => ?_) _).setCell (p := ⟨p, 1, none⟩) (fun _ => .inl rfl) _).drew
   rcases hnew with h' | h'
   · exact .inr h'
   · exact absurd h (Nat.not_lt.2 h')
 · simp only [Value.ownBlock, Option.some.injEq] at hg'
   subst hg'
   exact hnew
theorem qbp (base p : Nat) (v0 : Value) (l : List Bool) (X N : Nat) (w : World) (h : IsW w base p v0 l) (hX : X ≤ 18446744073709551615) (hN : N ≤ 64) (hl : l.length ≤ 1099511627776) (hb0 : base ≤ w.heap.size) :
 Calls Tryz.prog 22 #[.pointer (some ⟨p, 0, none⟩), .int .u64 X, .int .i64 N] w fun e w' => e = .returned (.int .i64 0) ∧ Wrote base p v0 (l ++ qab X N) w w' := by
 obtain ⟨i0, hi, hz0, hz1, hz2⟩ := info_parts infoU8
 have hz1' : ¬ (N : Int) < 0 := by omega
 have hz2' : ¬ 64 < (N : Int) := by omega
 go_enter Tryz.func22, Tryz.ntmps22
 go_wp2
 go_loopw [19] (fun i wr => ∃ k : Nat, k ≤ N ∧ i = .int .i64 k ∧ Wrote base p v0 (l ++ qbo X N k) w wr) (fun i wr => N - (intOf i).toNat)
 case atStart => exact ⟨0, Nat.zero_le _, rfl, by rw [qfk, List.append_nil]; exact Wrote.refl h⟩
 case round =>
  obtain ⟨k, hk, rfl, v, hI, hKp, hnew⟩ := hrel
  by_cases hlt : k < N
  · have hb1 : base ≤ wr.heap.size := Nat.le_trans hb0 hKp.size
    have hfs := qfl X N k
    generalize hL : l ++ qbo X N k = L at hI
    have hLl : L.length = l.length + k := by rw [← hL]; simp [qhm]
    have hend : l ++ qbo X N (k + 1) = L ++ [X.testBit (N - 1 - k)] := by rw [hfs, ← List.append_assoc, hL]
    clear hfs hL
    obtain ⟨q, hq⟩ : ∃ q, q = L.length / 8 := ⟨_, rfl⟩
    obtain ⟨r, hr⟩ : ∃ r, r = L.length % 8 := ⟨_, rfl⟩
    obtain ⟨s, hs⟩ : ∃ s, s = N - 1 - k := ⟨_, rfl⟩
    have hbit := bit_and_one X s (by omega)
    rw [← hs] at hend
    generalize hbb : X.testBit s = b at hbit hend
    have fr := qfy b
    obtain ⟨t, ht⟩ : ∃ t, t = 7 - r := ⟨_, rfl⟩
    obtain ⟨c, hc⟩ : ∃ c, c = byteAt L q := ⟨_, rfl⟩
    obtain ⟨d, hd⟩ : ∃ d, d = b.toNat * 2 ^ t := ⟨_, rfl⟩
    have hd256 : d < 256 := by
     have h1 : t ≤ 7 := by omega
     have h2 : 2 ^ t ≤ 2 ^ 7 := Nat.pow_le_pow_right (by decide) h1
     have h3 : b.toNat * 2 ^ t ≤ 1 * 2 ^ 7 := Nat.mul_le_mul fr h2
     omega
    have hc256 : c < 256 := by rw [hc]; exact byteAt_lt _ _
    have hm8 : (L.length : Int) % 8 = r := by omega
    have hd8 : (L.length : Int) / 8 = q := by omega
    have htm : (L.length : Int).tmod 8 = r := by rw [Int.tmod_eq_emod_of_nonneg (by omega)]; omega
    have htd : (L.length : Int).tdiv 8 = q := by rw [Int.tdiv_eq_ediv_of_nonneg (by omega)]; omega
    have hw1 : IntKind.i64.wrap ((N : Int) - 1) = N - 1 := IntWalk.i64_in _ (by omega)
    have hs1 : (N : Int) - 1 - k = s := by omega
    have hw2 : IntKind.i64.wrap (s : Int) = s := qcj _ (by omega)
    have ht1 : (7 : Int) - r = t := by omega
    have hw3 : IntKind.i64.wrap (t : Int) = t := qcj _ (by omega)
    have hw4 : IntKind.i64.wrap (q : Int) = q := qcj _ (by omega)
    have hw5 : IntKind.u8.wrap (b.toNat : Int) = b.toNat := IntWalk.u8_in _ (by omega)
    have hw6 : IntKind.u8.wrap ((b.toNat : Int) * 2 ^ t) = d := shl_byte _ _ _ hd hd256
    have hw7 : IntKind.i64.wrap ((L.length : Int) + 1) = L.length + 1 := IntWalk.i64_in _ (by omega)
    have hor : bits .or .u8 (c : Int) (d : Int) = ((c ||| d : Nat) : Int) := u8_or_nat _ _ hc256 hd256
    have hq0 : (0 : Int) ≤ q := by omega
    have hq1 : (q : Int) < q + 1 := by omega
    have hs64 : s ≤ 64 := by omega
    have ht7 : t ≤ 7 := by omega
    have Hq := Hj hq; have Hr := Hj hr; have Hs := Hj hs; have Ht := Hj ht; have Hc := Hj hc; have Hd := Hj hd; have Hend := Hj hend; have HLl := Hj hLl
    have HI := Hj hI; have HKp := Hj hKp; have Hnew := Hj hnew
    clear hq hr hs ht hc hd hend hLl hI hKp hnew hbb
    by_cases hr0 : r = 0
    · have hI := HI.out
      have hr8 : L.length % 8 = 0 := by rw [← Hr.out]; exact hr0
      have c0 := hI.cell0
      have c1 := hI.cell1
      have f0 := hI.free 0
      have f1 := hI.free 1
      have hrow := hI.row
      have hrb : ((r : Int) == 0) = true := by simp [hr0]
      clear hI hr0
      have hpl : (packed L).length ≤ 1099511627776 := by rw [qaw]; have := HLl.out; omega
      go_wp2_with (at_builtin; refine qcm _ rfl _ _ 29 rfl base 5 i0 (.int .u8 0) 1 1 Tryz.underlying29 hi hz0 hz1 hz2 rfl (by decide) _ _ _ rfl (hrow.alloc _) ⟨wr.heap.size, 0, none⟩ 1 1 [.int .u8 0] rfl rfl ?c1 ?c2 ?c3 ?c4 ?c5 ?_)
      case c1 => exact cell_one_new _ _ _
      case c2 => simp [Value.oneCell']
      case c3 => unfold maxLen; omega
      case c4 => omega
      case c5 => simp; omega
      intro v' w1 hown' hgrow hnewr
      have hmid := IsW.grow HI.out hr8 hown' ((((Keeps.refl (fun k => v.ownBlock = some k) wr).alloc _)).grown hgrow (fun k _ e => e))
      have hKw : Keeps (fun k => v.ownBlock = some k) wr w1 := ((Keeps.refl _ wr).alloc _).grown hgrow (fun k _ e => e)
      have hvp : ¬ v.ownBlock = some p := fun e => by
       obtain ⟨cur', hc'⟩ := qak HI.out.row e
       exact qaf hc' HI.out.blk (by decide) rfl
      have d0 : w1.cell? ⟨p, 0, none⟩ = some v := hKw.cell c0 hvp
      have e0 : w1.frozen? ⟨p, 0, none⟩ = false := frozen_of_row w1 p 0 _ _ (hKw.heap HI.out.blk hvp)
      have hng : ∀ g, v'.ownBlock = some g → v0.ownBlock = some g ∨ w.heap.size ≤ g := fun g hg => by
       rcases hnewr g hg with h' | h'
       · exact Hnew.out g h'
       · exact .inr (Nat.le_trans HKp.out.size (Nat.le_trans (by simp) h'))
      have hKA := (HKp.out.trans hKw (fun k hk e => (Hnew.out k e).elim .inr (fun h => absurd hk (Nat.not_lt.2 h)))).setCell (p := ⟨p, 0, none⟩) (fun _ => .inl rfl) v'
      obtain ⟨g, cap, rfl, m0, m1, m2, m3, m4, hgp, hpg⟩ := hmid.facts Hq.out Hc.out
      have HKA := Hj hKA
      have Hng := Hj hng
      have Hmid := Hj hmid
      clear hmid hng hKw hKA hown' hgrow hrow hr8 c0 c1 f0 f1 hvp
      go_wp2
      generalize w1.setCell ⟨p, 0, none⟩ (.slice (some ⟨g, 0, none⟩) (q + 1) cap) = w2 at *
      clear d0 e0
      go_still_tail 31, (by kernel_rfl)
      go_wp2
      have hx := qki HKA.out (Hng.out g rfl) Hmid.out Hq.out Hr.out Ht.out Hc.out Hd.out
      exact ⟨⟨k + 1, by omega, by go_num, by rw [Hend.out]; exact hx⟩, by simp [intOf]; omega⟩
    · have hrb : ((r : Int) == 0) = false := by simp [hr0]
      have hmid := HI.out.mid (by rw [← Hr.out]; exact hr0)
      obtain ⟨g, cap, rfl, m0, m1, m2, m3, m4, hgp, hpg⟩ := hmid.facts Hq.out Hc.out
      have Hmid := Hj hmid
      clear hmid
      go_wp2
      go_still_tail 31, (by kernel_rfl)
      go_wp2
      have hx := qki HKp.out (Hnew.out g rfl) Hmid.out Hq.out Hr.out Ht.out Hc.out Hd.out
      exact ⟨⟨k + 1, by omega, by go_num, by rw [Hend.out]; exact hx⟩, by simp [intOf]; omega⟩
  · go_wp2
    go_ret
    have : k = N := by omega
    subst this
    exact ⟨rfl, v, hI, hKp, hnew⟩
end
section
set_option maxHeartbeats 1000000
set_option maxRecDepth 100000
open Go.RowKit
structure Cnt (w0 w : World) (blk off : Nat) (d : Array Nat) (p : Nat) : Prop where
 arr : Arr w0 w blk off d
 cell : ∃ z : Int, w.cell? ⟨p, 0, none⟩ = some (.int .i64 z)
 fro : w.frozen? ⟨p, 0, none⟩ = false
theorem Cnt.drewN {w0 w : World} {blk off : Nat} {d : Array Nat} {p : Nat} (h : Cnt w0 w blk off d p) (n : Nat) : Cnt w0 (w.drewN n) blk off d p := ⟨h.arr.drewN n, h.cell, h.fro⟩
theorem qal (w : World) (p q : Addr) (v : Value) (h : q.block ≠ p.block) : (w.setCell p v).cell? q = w.cell? q := by
 simp [World.setCell, World.cell?, Array.getElem?_modify, Ne.symm h]
theorem qbg (w : World) (p q : Addr) (v : Value) : (w.setCell p v).frozen? q = w.frozen? q := by
 obtain ⟨b, o, s⟩ := p
 simp only [World.setCell, World.frozen?, Array.getElem?_modify]
 by_cases hk : b = q.block
 · simp only [hk, if_true]
   cases w.heap[q.block]? with
   | none => rfl
   | some o => cases o <;> rfl
 · simp [hk]
theorem Cnt.put {w0 w : World} {blk off : Nat} {d : Array Nat} {p : Nat} (h : Cnt w0 w blk off d p) (hp : w0.heap.size ≤ p) (hb : p ≠ blk) (z : Int) : Cnt w0 (w.setCell ⟨p, 0, none⟩ (.int .i64 z)) blk off d p := by
 obtain ⟨z0, hz⟩ := h.cell
 refine ⟨⟨h.arr.os, h.arr.tape, h.arr.output, ?_, fun k hk hn => ?_, fun j hj => ?_, fun j hj => ?_⟩, ⟨z, ?_⟩, ?_⟩
 · show _ ≤ (w.heap.modify p _).size
   rw [Array.size_modify]; exact h.arr.size
 · show (w.heap.modify p _)[k]? = _
   rw [Array.getElem?_modify, if_neg (by omega)]
   exact h.arr.block k hk hn
 · rw [qal _ _ _ _ (by simpa using Ne.symm hb)]; exact h.arr.cell j hj
 · rw [qbg]; exact h.arr.fro j hj
 · exact World.cell?_setCell_same _ _ _ hz
 · rw [qbg]; exact h.fro
theorem uOrd_any (w0 w : World) (blk off cap i j p : Nat) (d : Array Nat) (h : Cnt w0 w blk off d p) (hp : w0.heap.size ≤ p) (hb : p ≠ blk) (hi : i < d.size) (hj : j < d.size) :
 Calls Tryz.prog 253 #[.slice (some ⟨blk, off, none⟩) d.size cap, .int .i64 (i : Int), .int .i64 (j : Int), .pointer (some ⟨p, 0, none⟩)] w fun e w' =>
  (e = .returned (.tuple #[.int .i64 (i : Int), .int .i64 (j : Int)]) ∨ e = .returned (.tuple #[.int .i64 (j : Int), .int .i64 (i : Int)])) ∧ Cnt w0 w' blk off d p := by
 have HH := Hj h
 have c0 := h.arr.cell i hi; have c1 := h.arr.cell j hj
 generalize d[i]! = x at c0
 generalize d[j]! = y at c1
 have hi' : (i : Int) < (d.size : Int) := by omega
 have hj' : (j : Int) < (d.size : Int) := by omega
 clear h
 go_enter Tryz.func253, Tryz.ntmps253
 go_wp2
 go_quiet ((go_at_call 158; exact Calls.quiet_of_same (qah _ _ _)))
 have HQ := Hj (HH.out.drewN nq)
 obtain ⟨z, hz⟩ := HQ.out.cell
 have hf := HQ.out.fro
 generalize w.drewN nq = wq at *
 go_wp2
 · go_ret2
   exact ⟨.inr rfl, HQ.out.put hp hb _⟩
 · go_ret2
   exact ⟨.inl rfl, HQ.out⟩
theorem uOrd_at (w0 w : World) (blk off cap sz i j p : Nat) (d : Array Nat) (h : Cnt w0 w blk off d p) (hs : d.size = sz) (hp : w0.heap.size ≤ p) (hb : p ≠ blk) (hi : i < sz) (hj : j < sz) :
 Calls Tryz.prog 253 #[.slice (some ⟨blk, off, none⟩) sz cap, .int .i64 (i : Int), .int .i64 (j : Int), .pointer (some ⟨p, 0, none⟩)] w fun e w' =>
  (∃ r s : Nat, e = .returned (.tuple #[.int .i64 (r : Int), .int .i64 (s : Int)]) ∧ (r = i ∨ r = j) ∧ (s = i ∨ s = j)) ∧ Cnt w0 w' blk off d p := by
 subst hs
 refine (uOrd_any w0 w blk off cap i j p d h hp hb hi hj).mono ?_
 rintro e w' ⟨rfl | rfl, hc⟩
 · exact ⟨⟨i, j, rfl, .inl rfl, .inr rfl⟩, hc⟩
 · exact ⟨⟨j, i, rfl, .inr rfl, .inl rfl⟩, hc⟩
theorem uMed_any (w0 w : World) (blk off cap sz a b c p : Nat) (d : Array Nat) (h : Cnt w0 w blk off d p) (hs : d.size = sz) (hp : w0.heap.size ≤ p) (hb : p ≠ blk) (ha : a < sz) (hbb : b < sz) (hc : c < sz) :
 Calls Tryz.prog 241 #[.slice (some ⟨blk, off, none⟩) sz cap, .int .i64 (a : Int), .int .i64 (b : Int), .int .i64 (c : Int), .pointer (some ⟨p, 0, none⟩)] w fun e w' =>
  (∃ r : Nat, e = .returned (.int .i64 (r : Int)) ∧ (r = a ∨ r = b ∨ r = c)) ∧ Cnt w0 w' blk off d p := by
 have HC := Hj (fun wq i j (hq : Cnt w0 wq blk off d p) (hi : i < sz) (hj : j < sz) => uOrd_at w0 wq blk off cap sz i j p d hq hs hp hb hi hj)
 have HH := Hj h
 clear h
 go_enter Tryz.func241, Tryz.ntmps241
 go_wp2_with fail
 refine (HC.out _ _ _ HH.out ha hbb).mono ?_; rintro e w1 ⟨⟨r1, s1, rfl, hr1, hs1⟩, hc1⟩; have H1 := Hj hc1; have R1 := Hj hr1; have S1 := Hj hs1; have s1z : s1 < sz := (by omega); have r1z : r1 < sz := (by omega); clear hc1 hr1 hs1
 go_wp2_with fail
 refine (HC.out _ _ _ H1.out s1z hc).mono ?_; rintro e w2 ⟨⟨r2, s2, rfl, hr2, hs2⟩, hc2⟩; have H2 := Hj hc2; have R2 := Hj hr2; have S2 := Hj hs2; have s2z : s2 < sz := (by omega); have r2z : r2 < sz := (by omega); clear hc2 hr2 hs2
 go_wp2_with fail
 refine (HC.out _ _ _ H2.out r1z r2z).mono ?_; rintro e w3 ⟨⟨r3, s3, rfl, hr3, hs3⟩, hc3⟩; have H3 := Hj hc3; have S3 := Hj hs3; clear hc3 hr3 hs3
 go_wp2
 go_ret
 exact ⟨⟨s3, rfl, by have := R1.out; have := S1.out; have := R2.out; have := S3.out; omega⟩, H3.out⟩
end
section
set_option maxHeartbeats 2000000
set_option maxRecDepth 100000
open Go.RowKit
theorem uMeda_any (w0 w : World) (blk off cap sz x p : Nat) (d : Array Nat) (h : Cnt w0 w blk off d p) (hs : d.size = sz) (hp : w0.heap.size ≤ p) (hb : p ≠ blk) (hx : 1 ≤ x) (hx2 : x + 1 < sz) (hsz : sz ≤ 1099511627776) :
 Calls Tryz.prog 240 #[.slice (some ⟨blk, off, none⟩) sz cap, .int .i64 (x : Int), .pointer (some ⟨p, 0, none⟩)] w fun e w' =>
  (∃ r : Nat, e = .returned (.int .i64 (r : Int)) ∧ x ≤ r + 1 ∧ r ≤ x + 1) ∧ Cnt w0 w' blk off d p := by
 obtain ⟨y, hy⟩ : ∃ y, x = y + 1 := ⟨x - 1, by omega⟩
 obtain ⟨z, hz⟩ : ∃ z, z = x + 1 := ⟨_, rfl⟩
 have e1 : (x : Int) - 1 = (y : Int) := by omega
 have e2 : (x : Int) + 1 = (z : Int) := by omega
 have hxb : (z : Int) ≤ 1099511627776 := by omega
 have HC := Hj (uMed_any w0 w blk off cap sz y x z p d h hs hp hb (by omega) (by omega) (by omega))
 have HY := Hj hy; have HZ := Hj hz
 clear h hy hz
 go_enter Tryz.func240, Tryz.ntmps240
 go_wp2_with (go_at_call 241; refine HC.out.mono ?_; rintro e w1 ⟨⟨r, rfl, hr⟩, hc⟩)
 go_ret
 exact ⟨⟨r, rfl, by have := HY.out; have := HZ.out; omega, by have := HY.out; have := HZ.out; omega⟩, hc⟩
theorem Arr.count {w0 w : World} {blk off : Nat} {d : Array Nat} (h : Arr w0 w blk off d) (hd : 0 < d.size) : Cnt w0 (w.alloc (.cells #[.int .i64 0] 3)) blk off d w.heap.size ∧ w.heap.size ≠ blk := by
 have hlt : blk < w.heap.size := World.block_lt_of_cell? w _ (h.cell 0 hd)
 have hb : ∀ k, k < w.heap.size → (w.alloc (.cells #[.int .i64 0] 3)).heap[k]? = w.heap[k]? := fun k hk => Below.heap_alloc w _ k hk
 refine ⟨⟨⟨h.os, h.tape, h.output, by have := h.size; simp; omega, fun k hk hn => ?_, fun j hj => ?_, fun j hj => ?_⟩, ⟨0, by simp⟩, by simp⟩, by omega⟩
 · rw [hb k (by have := h.size; omega)]; exact h.block k hk hn
 · rw [← h.cell j hj]; simp only [World.cell?, hb blk hlt]
 · rw [← h.fro j hj]; simp only [World.frozen?, hb blk hlt]
theorem uPiv_any (w0 w : World) (blk off cap a b : Nat) (d : Array Nat) (h : Arr w0 w blk off d) (hab : a + 12 < b) (hb : b ≤ d.size) (hsz : d.size ≤ 1099511627776) :
 Calls Tryz.prog 220 #[.slice (some ⟨blk, off, none⟩) d.size cap, .int .i64 (a : Int), .int .i64 (b : Int)] w fun e w' =>
  (∃ r s : Nat, e = .returned (.tuple #[.int .i64 (r : Int), .int .i64 (s : Int)]) ∧ a ≤ r ∧ r < b ∧ s ≤ 2) ∧ Arr w0 w' blk off d := by
 obtain ⟨hc, hne⟩ := h.count (by omega)
 have hps : w0.heap.size ≤ w.heap.size := h.size
 obtain ⟨l, hl⟩ : ∃ l, l = b - a := ⟨_, rfl⟩
 obtain ⟨q, hq⟩ : ∃ q, q = l / 4 := ⟨_, rfl⟩
 obtain ⟨I, hI⟩ : ∃ I, I = a + q := ⟨_, rfl⟩
 obtain ⟨J, hJ⟩ : ∃ J, J = a + q * 2 := ⟨_, rfl⟩
 obtain ⟨K, hK⟩ : ∃ K, K = a + q * 3 := ⟨_, rfl⟩
 have e0 : (b : Int) - (a : Int) = (l : Int) := by omega
 have e1 : (l : Int) / 4 = (q : Int) := by omega
 have e2 : (a : Int) + (q : Int) = (I : Int) := by omega
 have e3 : (a : Int) + (q : Int) * 2 = (J : Int) := by omega
 have e4 : (a : Int) + (q : Int) * 3 = (K : Int) := by omega
 have h8 : (8 : Int) ≤ (l : Int) := by omega
 have hq0 : (q : Int) ≤ 1099511627776 := by omega
 have hK0 : (K : Int) ≤ 1099511627776 := by omega
 have HM := Hj (fun wq x y z (hq : Cnt w0 wq blk off d w.heap.size) (hx : x < d.size) (hy : y < d.size) (hz : z < d.size) => uMed_any w0 wq blk off cap d.size x y z w.heap.size d hq rfl hps hne hx hy hz)
 have HA := Hj (fun wq x (hq : Cnt w0 wq blk off d w.heap.size) (hx : 1 ≤ x) (hy : x + 1 < d.size) => uMeda_any w0 wq blk off cap d.size x w.heap.size d hq rfl hps hne hx hy hsz)
 have HC := Hj hc; have HL := Hj hl; have HQ := Hj hq; have HI := Hj hI; have HJ := Hj hJ; have HK := Hj hK; have HAB := Hj hab
 clear h hc hl hq hI hJ hK hab hps hne
 by_cases h50 : 50 ≤ l
 · have h50' : (50 : Int) ≤ (l : Int) := by omega
   have HR : Hid (3 ≤ I ∧ I + 1 < b ∧ 1 ≤ I ∧ 1 ≤ J ∧ J + 1 < b ∧ 1 ≤ K ∧ K + 1 < b ∧ a ≤ I - 1 ∧ a ≤ J - 1 ∧ a ≤ K - 1) := Hj (by have := HL.out; have := HQ.out; have := HI.out; have := HJ.out; have := HK.out; omega)
   clear h50
   go_enter Tryz.func220, Tryz.ntmps220
   go_wp2_with fail
   refine (HA.out _ I HC.out (by have := HR.out; omega) (by have := HR.out; omega)).mono ?_
   rintro e w1 ⟨⟨r1, rfl, hr1, hr1'⟩, hc1⟩
   have H1 := Hj hc1; clear hc1
   go_wp2_with fail
   refine (HA.out _ J H1.out (by have := HR.out; omega) (by have := HR.out; omega)).mono ?_
   rintro e w2 ⟨⟨r2, rfl, hr2, hr2'⟩, hc2⟩
   have H2 := Hj hc2; clear hc2
   go_wp2_with fail
   refine (HA.out _ K H2.out (by have := HR.out; omega) (by have := HR.out; omega)).mono ?_
   rintro e w3 ⟨⟨r3, rfl, hr3, hr3'⟩, hc3⟩
   have H3 := Hj hc3; clear hc3
   go_wp2_with fail
   refine (HM.out _ r1 r2 r3 H3.out (by have := HR.out; omega) (by have := HR.out; omega) (by have := HR.out; omega)).mono ?_
   rintro e w4 ⟨⟨r4, rfl, hr4⟩, hc4⟩
   obtain ⟨z, hz⟩ := hc4.cell
   have H4 := Hj hc4; clear hc4
   have hra : a ≤ r4 := by have := HR.out; omega
   have hrb : r4 < b := by have := HR.out; omega
   clear hr1 hr1' hr2 hr2' hr3 hr3' hr4
   go_wp2
   all_goals
    go_ret2
    first
     | exact ⟨⟨r4, 1, rfl, by omega, by omega, by omega⟩, H4.out.arr⟩
     | exact ⟨⟨r4, 2, rfl, by omega, by omega, by omega⟩, H4.out.arr⟩
     | exact ⟨⟨r4, 0, rfl, by omega, by omega, by omega⟩, H4.out.arr⟩
 · have h50' : (decide ((50 : Int) ≤ (l : Int))) = false := by simp; omega
   have h50'' : ¬ (50 : Int) ≤ (l : Int) := by omega
   have HR : Hid (a ≤ I ∧ a ≤ J ∧ a ≤ K ∧ I < b ∧ J < b ∧ K < b) := Hj (by have := HL.out; have := HQ.out; have := HI.out; have := HJ.out; have := HK.out; omega)
   clear h50
   go_enter Tryz.func220, Tryz.ntmps220
   go_wp2_with fail
   refine (HM.out _ I J K HC.out (by have := HR.out; omega) (by have := HR.out; omega) (by have := HR.out; omega)).mono ?_
   rintro e w4 ⟨⟨r4, rfl, hr4⟩, hc4⟩
   obtain ⟨z, hz⟩ := hc4.cell
   have H4 := Hj hc4; clear hc4
   have hra : a ≤ r4 := by have := HR.out; omega
   have hrb : r4 < b := by have := HR.out; omega
   clear hr4
   go_wp2
   all_goals
    go_ret2
    first
     | exact ⟨⟨r4, 1, rfl, by omega, by omega, by omega⟩, H4.out.arr⟩
     | exact ⟨⟨r4, 2, rfl, by omega, by omega, by omega⟩, H4.out.arr⟩
     | exact ⟨⟨r4, 0, rfl, by omega, by omega, by omega⟩, H4.out.arr⟩
end
section
open Go.RowKit
def SeqR {α : Type} (P : Program) (g : Nat) (lb : Array Value) (encs : α → Array Value) (own tr : Nat → Prop) (S Sp : List α → Prop) (w : World) : Prop :=
 ∀ (l : Nat) (J Jx : List α → World → Prop) (W : World), Keeps (fun k => ¬ own k) w W →
  (∀ s A B, J s A → Keeps tr A B → J s B) → (∀ s A B, Jx s A → Keeps tr A B → Jx s B) →
  (∀ pre x W1, J pre W1 → Sp (pre ++ [x]) → YieldAt Fence.wide 0 P l (encs x) W1 fun e W' =>
    (e = .returned (.bool true) ∧ J (pre ++ [x]) W' ∧ Keeps (fun k => ¬ own k) W1 W') ∨ (e = .returned (.bool false) ∧ Jx (pre ++ [x]) W' ∧ Keeps (fun k => ¬ own k) W1 W')) →
  J [] W →
  CallsIn Fence.wide 0 P g (#[.func (.yield l) #[] #[]] ++ lb) W fun e W' => (∃ v, e = .returned v) ∧ ((∃ xs, S xs ∧ J xs W') ∨ (∃ pre, Sp pre ∧ Jx pre W'))
theorem SeqR.later {α : Type} {P : Program} {g : Nat} {lb : Array Value} {encs : α → Array Value} {own tr : Nat → Prop} {S Sp : List α → Prop} {w w' : World} (h : SeqR P g lb encs own tr S Sp w) (k : Keeps (fun k => ¬ own k) w w') : SeqR P g lb encs own tr S Sp w' :=
 fun l J Jx W hW => h l J Jx W (k.trans hW (fun _ _ h => h))
variable {P : Program}
theorem qbj {α : Type} {g : Operand} {ps : Array Tmp} {assign body : Code} {Q : Exit → Act → World → Prop} {a : Act} {w : World}
 {gf : Nat} {lb : Array Value} (hg : a.eval g = .func (.func gf) #[] lb) (eg : ∀ args w, (callFunc gf args).run P w = .ok (.enter gf args) w)
 {encs : α → Array Value} {own tr T : Nat → Prop} {S Sp : List α → Prop} (hseq : SeqR P gf lb encs own tr S Sp w) (hps : ∀ x, (encs x).size = ps.size)
 (htr : ∀ k, tr k → own k) (hown : ∀ k, own k → k < w.heap.size) (hT : ∀ k, T k → ¬ own k) (hT2 : ∀ k, T k → k < w.heap.size ∨ w.heap.size + 2 ≤ k)
 (I : List α → World → Prop) (Ix : Code → List α → World → Prop)
 (hI : ∀ s A B, I s A → Keeps (fun k => tr k ∨ k = w.heap.size ∨ k = w.heap.size + 1) A B → I s B)
 (hIx : ∀ c s A B, Ix c s A → Keeps (fun k => tr k ∨ k = w.heap.size ∨ k = w.heap.size + 1) A B → Ix c s B) (h0 : I [] w) (a₁ : α → Act)
 (hassign : ∀ (l : Nat) (x : α) (W : World) (K : Act → World → Prop), K (a₁ x) W →
   assign.wpIn (Fence.wide.inRound l) 0 P (Exit.then K (fun _ _ _ => False)) { tmps := (ps.zip (encs x)).foldl (fun t (p, v) => t.setIfInBounds p v) a.tmps, defers := [] } W)
 (hbody : ∀ (l : Nat) (pre : List α) (x : α) (W : World), I pre W → Sp (pre ++ [x]) → w.heap.size + 2 ≤ W.heap.size → body.wpIn (Fence.wide.inRound l) 0 P (bodyC T I Ix (pre ++ [x]) W) (a₁ x) W)
 (hdone : ∀ (D : Nat) (xs : List α) (W : World), S xs → I xs W → w.heap.size ≤ D → W.heap[D]? = some (.deferred (some [])) → Q .normal { a with defers := { target := .collected D, args := #[] } :: a.defers } W)
 (hstop : ∀ (D : Nat) (c : Code) (pre : List α) (W : World), Sp pre → Ix c pre W → w.heap.size ≤ D → W.heap[D]? = some (.deferred (some [])) → c.wpIn Fence.wide 0 P Q { a with defers := { target := .collected D, args := #[] } :: a.defers } W) :
 (Code.rangeFunc g ps assign body).wpIn Fence.wide 0 P Q a w := by
 refine wpIn_rangeFunc ?_
 intro fn hfn
 obtain ⟨rec, hrec⟩ : ∃ rec : LoopState → Option Code → Loop, rec = fun st pe => { state := st, pending := pe, fn, tmps := a.tmps, params := ps, assign, body, defers := w.heap.size } := ⟨_, rfl⟩
 obtain ⟨W1, hW1⟩ : ∃ W1, (w.alloc (.deferred (some []))).alloc (.loop (rec .ready none)) = W1 := ⟨_, rfl⟩
 have hL1 : W1.heap[w.heap.size + 1]? = some (.loop (rec .ready none)) := by
  rw [← hW1]; have := World.alloc_heap_new (w.alloc (.deferred (some []))) (.loop (rec .ready none)); rwa [World.size_alloc] at this
 have hK1 : W1.heap[w.heap.size]? = some (.deferred (some [])) := by
  rw [← hW1]; exact (Below.heap_alloc _ _ _ (by simp)).trans (World.alloc_heap_new w _)
 have hKW : ∀ S : Nat → Prop, Keeps S w W1 := fun S => by rw [← hW1]; exact ((Keeps.refl S w).alloc _).alloc _
 have hI1 : I [] W1 := hI _ _ _ h0 (hKW _)
 refine ⟨w.heap.size + 1, [{ target := .collected w.heap.size, args := #[] }], W1, { target := .fn (.func gf) lb, args := #[.func (.yield (w.heap.size + 1)) #[] #[]] }, W1, gf,
  #[.func (.yield (w.heap.size + 1)) #[] #[]] ++ lb, W1, ?_, ?_, ?_, ?_, (fun h => by cases h), ?_⟩
 · rw [← hW1, hrec]; exact run_enterLoop_outer _ _ _ _ _
 · simp only [resolve, hg]
   simp [go_sem]
 · intro f' _; exact trivial
 · simp [invoke, go_sem, eg]
 · have hDown : ¬ own w.heap.size := fun h => by have := hown _ h; omega
   have hLown : ¬ own (w.heap.size + 1) := fun h => by have := hown _ h; omega
   refine (hseq (w.heap.size + 1)
    (fun pre W => (I pre W ∧ w.heap.size + 2 ≤ W.heap.size) ∧ W.heap[w.heap.size + 1]? = some (.loop (rec .ready none)) ∧ W.heap[w.heap.size]? = some (.deferred (some [])))
    (fun pre W => ∃ c, Ix c pre W ∧ W.heap[w.heap.size + 1]? = some (.loop (rec .done (some c))) ∧ W.heap[w.heap.size]? = some (.deferred (some [])))
    W1 (hKW _)
    (fun s A B hs k => ⟨⟨hI s A B hs.1.1 (k.mono (fun _ _ h => .inl h)), Nat.le_trans hs.1.2 k.size⟩, k.heap hs.2.1 (fun h => hLown (htr _ h)), k.heap hs.2.2 (fun h => hDown (htr _ h))⟩)
    (fun s A B hs k => by
      obtain ⟨c, hc, hl, hk⟩ := hs
      exact ⟨c, hIx c s A B hc (k.mono (fun _ _ h => .inl h)), k.heap hl (fun h => hLown (htr _ h)), k.heap hk (fun h => hDown (htr _ h))⟩)
    ?_ ⟨⟨hI1, by have := (Array.getElem?_eq_some_iff.1 hL1).1; omega⟩, hL1, hK1⟩).mono ?_
   · rintro pre x W ⟨⟨hi, hsz⟩, hl, hk⟩ hsp
     have hlt : w.heap.size + 1 < W.heap.size := (Array.getElem?_eq_some_iff.1 hl).1
     have hy := run_yield (P := P) (args := encs x) hl (by rw [hrec]; exact hps x)
     rw [hrec] at hy
     refine ⟨fn, _, assign, body, hy, roundIn_of_wpIn hfn (hassign _ x W _ ⟨_, run_beginRound hl (by rw [hrec]), ?_⟩)⟩
     have hl2 : (W.putObj (w.heap.size + 1) (.loop { rec .ready none with state := .busy })).heap[w.heap.size + 1]? = some (.loop { rec .ready none with state := .busy }) := World.putObj_heap_same hlt
     have hk2 : (W.putObj (w.heap.size + 1) (.loop { rec .ready none with state := .busy })).heap[w.heap.size]? = some (.deferred (some [])) := (World.putObj_heap_other (by omega)).trans hk
     have hw2 : Keeps (fun k => ¬ own k) W (W.putObj (w.heap.size + 1) (.loop { rec .ready none with state := .busy })) := Keeps.putObj _ _ _ hLown
     have hi2 := hI _ _ _ hi (Keeps.putObj W (w.heap.size + 1) (.loop { rec .ready none with state := .busy }) (.inr (.inr rfl)))
     have hTn : ¬ T (w.heap.size + 1) := fun h => by rcases hT2 _ h with h | h <;> omega
     have hTd : ¬ T w.heap.size := fun h => by rcases hT2 _ h with h | h <;> omega
     refine wpIn_mono (hbody _ pre x _ hi2 hsp (by simpa using hsz)) ?_
     have fin : ∀ (jump : Option Code) (W3 : World), Keeps T (W.putObj (w.heap.size + 1) (.loop { rec .ready none with state := .busy })) W3 →
      (Instr.endRound (w.heap.size + 1) jump).run P W3 = .ok (.bool jump.isNone) (W3.putObj (w.heap.size + 1) (.loop (rec (if jump.isNone then .ready else .done) jump))) ∧
      w.heap.size + 2 ≤ W3.heap.size ∧
      (W3.putObj (w.heap.size + 1) (.loop (rec (if jump.isNone then .ready else .done) jump))).heap[w.heap.size + 1]? = some (.loop (rec (if jump.isNone then .ready else .done) jump)) ∧
      (W3.putObj (w.heap.size + 1) (.loop (rec (if jump.isNone then .ready else .done) jump))).heap[w.heap.size]? = some (.deferred (some [])) := fun jump W3 hk3 => by
      have hl3 := hk3.heap hl2 hTn
      have hr := run_endRound (P := P) jump hl3
      rw [hrec] at hr ⊢
      have hlt3 := (Array.getElem?_eq_some_iff.1 hl3).1
      exact ⟨hr, by omega, World.putObj_heap_same hlt3, (World.putObj_heap_other (by omega)).trans (hk3.heap hk2 hTd)⟩
     have put : ∀ (s : List α) (jump : Option Code) (W3 : World), I s W3 → I s (W3.putObj (w.heap.size + 1) (.loop (rec (if jump.isNone then .ready else .done) jump))) := fun s jump W3 h => hI _ _ _ h (Keeps.putObj _ _ _ (.inr (.inr rfl)))
     have putx : ∀ (c : Code) (s : List α) (jump : Option Code) (W3 : World), Ix c s W3 → Ix c s (W3.putObj (w.heap.size + 1) (.loop (rec (if jump.isNone then .ready else .done) jump))) := fun c s jump W3 h => hIx _ _ _ _ h (Keeps.putObj _ _ _ (.inr (.inr rfl)))
     rintro e a3 W3 hp
     cases e with
     | normal =>
       obtain ⟨hk3, hi3⟩ := hp
       obtain ⟨hr, hs3, hl4, hk4⟩ := fin none W3 hk3
       refine ⟨_, _, hr, .inl ⟨rfl, ⟨⟨put _ none _ hi3, by simpa using hs3⟩, hl4, hk4⟩, ?_⟩⟩
       exact (hw2.trans hk3 (fun k _ h => hT k h)).trans (Keeps.putObj (S := fun k => ¬ own k) _ _ _ hLown) (fun _ _ h => h)
     | ret =>
       obtain ⟨hk3, hi3⟩ := hp
       obtain ⟨hr, hs3, hl4, hk4⟩ := fin (some .ret) W3 hk3
       exact ⟨_, _, hr, .inr ⟨rfl, ⟨.ret, putx _ _ (some .ret) _ hi3, hl4, hk4⟩, (hw2.trans hk3 (fun k _ h => hT k h)).trans (Keeps.putObj (S := fun k => ¬ own k) _ _ _ hLown) (fun _ _ h => h)⟩⟩
     | exit id =>
       obtain ⟨hk3, hi3⟩ := hp
       obtain ⟨hr, hs3, hl4, hk4⟩ := fin (some (.exit id)) W3 hk3
       exact ⟨_, _, hr, .inr ⟨rfl, ⟨.exit id, putx _ _ (some (.exit id)) _ hi3, hl4, hk4⟩, (hw2.trans hk3 (fun k _ h => hT k h)).trans (Keeps.putObj (S := fun k => ¬ own k) _ _ _ hLown) (fun _ _ h => h)⟩⟩
     | goto t =>
       obtain ⟨hk3, hi3⟩ := hp
       obtain ⟨hr, hs3, hl4, hk4⟩ := fin (some (.goto t)) W3 hk3
       exact ⟨_, _, hr, .inr ⟨rfl, ⟨.goto t, putx _ _ (some (.goto t)) _ hi3, hl4, hk4⟩, (hw2.trans hk3 (fun k _ h => hT k h)).trans (Keeps.putObj (S := fun k => ¬ own k) _ _ _ hLown) (fun _ _ h => h)⟩⟩
     | panic ch => exact hp.elim
     | outgrown => exact hp.elim
   · rintro e W2 ⟨⟨v, rfl⟩, (⟨xs, hS, ⟨hi, _⟩, hl, hk⟩ | ⟨pre, hSp, c, hi, hl, hk⟩)⟩
     · exact ⟨none, _, by have := run_endLoop (P := P) hl (by rw [hrec]; simp); rw [hrec] at this; exact this, hdone _ xs _ hS (hI _ _ _ hi (Keeps.putObj _ _ _ (.inr (.inr rfl)))) (Nat.le_refl _) ((World.putObj_heap_other (by omega)).trans hk)⟩
     · exact ⟨some c, _, by have := run_endLoop (P := P) hl (by rw [hrec]; simp); rw [hrec] at this; exact this, hstop _ c pre _ hSp (hIx _ _ _ _ hi (Keeps.putObj _ _ _ (.inr (.inr rfl)))) (Nat.le_refl _) ((World.putObj_heap_other (by omega)).trans hk)⟩
theorem qen {α : Type} {g : Operand} {ps : Array Tmp} {assign body : Code} {Q : Exit → Act → World → Prop} {a : Act} {w : World}
 {gf : Nat} {lb : Array Value} (hg : a.eval g = .func (.func gf) #[] lb) (eg : ∀ args w, (callFunc gf args).run P w = .ok (.enter gf args) w)
 {encs : α → Array Value} {own tr T : Nat → Prop} {S Sp : List α → Prop} (hseq : SeqR P gf lb encs own tr S Sp w) (hps : ∀ x, (encs x).size = ps.size)
 (htr : ∀ k, tr k → own k) (hown : ∀ k, own k → k < w.heap.size) (hT : ∀ k, T k → ¬ own k) (hT2 : ∀ k, T k → k < w.heap.size ∨ w.heap.size + 2 ≤ k)
 (I : List α → World → Prop) (Ix : Code → List α → World → Prop)
 (hI : ∀ s A B, I s A → Keeps (fun k => tr k ∨ k = w.heap.size ∨ k = w.heap.size + 1) A B → I s B)
 (hIx : ∀ c s A B, Ix c s A → Keeps (fun k => tr k ∨ k = w.heap.size ∨ k = w.heap.size + 1) A B → Ix c s B) (h0 : I [] w) (a₁ : α → Nat → Act) (cs : α → Array Value) (ty : TypeId)
 (hassign : ∀ (l : Nat) (x : α) (W : World) (K : Act → World → Prop), K (a₁ x W.heap.size) (W.alloc (.cells (cs x) ty)) →
   assign.wpIn (Fence.wide.inRound l) 0 P (Exit.then K (fun _ _ _ => False)) { tmps := (ps.zip (encs x)).foldl (fun t (p, v) => t.setIfInBounds p v) a.tmps, defers := [] } W)
 (hbody : ∀ (l D : Nat) (pre : List α) (x : α) (W : World), I pre W → Sp (pre ++ [x]) → w.heap.size + 2 ≤ W.heap.size → W.heap[D]? = some (.cells (cs x) ty (0, 0)) → w.heap.size + 2 ≤ D → body.wpIn (Fence.wide.inRound l) 0 P (bodyC T I Ix (pre ++ [x]) W) (a₁ x D) W)
 (hdone : ∀ (D : Nat) (xs : List α) (W : World), S xs → I xs W → w.heap.size ≤ D → W.heap[D]? = some (.deferred (some [])) → Q .normal { a with defers := { target := .collected D, args := #[] } :: a.defers } W)
 (hstop : ∀ (D : Nat) (c : Code) (pre : List α) (W : World), Sp pre → Ix c pre W → w.heap.size ≤ D → W.heap[D]? = some (.deferred (some [])) → c.wpIn Fence.wide 0 P Q { a with defers := { target := .collected D, args := #[] } :: a.defers } W) :
 (Code.rangeFunc g ps assign body).wpIn Fence.wide 0 P Q a w := by
 refine wpIn_rangeFunc ?_
 intro fn hfn
 obtain ⟨rec, hrec⟩ : ∃ rec : LoopState → Option Code → Loop, rec = fun st pe => { state := st, pending := pe, fn, tmps := a.tmps, params := ps, assign, body, defers := w.heap.size } := ⟨_, rfl⟩
 obtain ⟨W1, hW1⟩ : ∃ W1, (w.alloc (.deferred (some []))).alloc (.loop (rec .ready none)) = W1 := ⟨_, rfl⟩
 have hL1 : W1.heap[w.heap.size + 1]? = some (.loop (rec .ready none)) := by
  rw [← hW1]; have := World.alloc_heap_new (w.alloc (.deferred (some []))) (.loop (rec .ready none)); rwa [World.size_alloc] at this
 have hK1 : W1.heap[w.heap.size]? = some (.deferred (some [])) := by
  rw [← hW1]; exact (Below.heap_alloc _ _ _ (by simp)).trans (World.alloc_heap_new w _)
 have hKW : ∀ S : Nat → Prop, Keeps S w W1 := fun S => by rw [← hW1]; exact ((Keeps.refl S w).alloc _).alloc _
 have hI1 : I [] W1 := hI _ _ _ h0 (hKW _)
 refine ⟨w.heap.size + 1, [{ target := .collected w.heap.size, args := #[] }], W1, { target := .fn (.func gf) lb, args := #[.func (.yield (w.heap.size + 1)) #[] #[]] }, W1, gf,
  #[.func (.yield (w.heap.size + 1)) #[] #[]] ++ lb, W1, ?_, ?_, ?_, ?_, (fun h => by cases h), ?_⟩
 · rw [← hW1, hrec]; exact run_enterLoop_outer _ _ _ _ _
 · simp only [resolve, hg]
   simp [go_sem]
 · intro f' _; exact trivial
 · simp [invoke, go_sem, eg]
 · have hDown : ¬ own w.heap.size := fun h => by have := hown _ h; omega
   have hLown : ¬ own (w.heap.size + 1) := fun h => by have := hown _ h; omega
   refine (hseq (w.heap.size + 1)
    (fun pre W => (I pre W ∧ w.heap.size + 2 ≤ W.heap.size) ∧ W.heap[w.heap.size + 1]? = some (.loop (rec .ready none)) ∧ W.heap[w.heap.size]? = some (.deferred (some [])))
    (fun pre W => ∃ c, Ix c pre W ∧ W.heap[w.heap.size + 1]? = some (.loop (rec .done (some c))) ∧ W.heap[w.heap.size]? = some (.deferred (some [])))
    W1 (hKW _)
    (fun s A B hs k => ⟨⟨hI s A B hs.1.1 (k.mono (fun _ _ h => .inl h)), Nat.le_trans hs.1.2 k.size⟩, k.heap hs.2.1 (fun h => hLown (htr _ h)), k.heap hs.2.2 (fun h => hDown (htr _ h))⟩)
    (fun s A B hs k => by
      obtain ⟨c, hc, hl, hk⟩ := hs
      exact ⟨c, hIx c s A B hc (k.mono (fun _ _ h => .inl h)), k.heap hl (fun h => hLown (htr _ h)), k.heap hk (fun h => hDown (htr _ h))⟩)
    ?_ ⟨⟨hI1, by have := (Array.getElem?_eq_some_iff.1 hL1).1; omega⟩, hL1, hK1⟩).mono ?_
   · rintro pre x W ⟨⟨hi, hsz⟩, hl, hk⟩ hsp
     have hlt : w.heap.size + 1 < W.heap.size := (Array.getElem?_eq_some_iff.1 hl).1
     have hy := run_yield (P := P) (args := encs x) hl (by rw [hrec]; exact hps x)
     rw [hrec] at hy
     obtain ⟨WA, hWA⟩ : ∃ WA, WA = W.alloc (.cells (cs x) ty) := ⟨_, rfl⟩
     have hKA : ∀ S : Nat → Prop, Keeps S W WA := fun S => by rw [hWA]; exact (Keeps.refl S W).alloc _
     have hDA : WA.heap[W.heap.size]? = some (.cells (cs x) ty (0, 0)) := by rw [hWA]; exact heap_alloc_new _ _
     have hlA : WA.heap[w.heap.size + 1]? = some (.loop (rec .ready none)) := (hKA (fun _ => False)).heap hl (fun h => h)
     have hkA : WA.heap[w.heap.size]? = some (.deferred (some [])) := (hKA (fun _ => False)).heap hk (fun h => h)
     have hiA : I pre WA := hI _ _ _ hi (hKA _)
     refine ⟨fn, _, assign, body, hy, roundIn_of_wpIn hfn (hassign _ x W _ ⟨_, (by rw [← hWA]; exact run_beginRound hlA (by rw [hrec])), ?_⟩)⟩
     have hltA : w.heap.size + 1 < WA.heap.size := (Array.getElem?_eq_some_iff.1 hlA).1
     have hl2 : (WA.putObj (w.heap.size + 1) (.loop { rec .ready none with state := .busy })).heap[w.heap.size + 1]? = some (.loop { rec .ready none with state := .busy }) := World.putObj_heap_same hltA
     have hk2 : (WA.putObj (w.heap.size + 1) (.loop { rec .ready none with state := .busy })).heap[w.heap.size]? = some (.deferred (some [])) := (World.putObj_heap_other (by omega)).trans hkA
     have hw2 : Keeps (fun k => ¬ own k) W (WA.putObj (w.heap.size + 1) (.loop { rec .ready none with state := .busy })) := (hKA (fun k => ¬ own k)).trans (Keeps.putObj _ _ _ hLown) (fun _ _ h => h)
     have hi2 := hI _ _ _ hiA (Keeps.putObj WA (w.heap.size + 1) (.loop { rec .ready none with state := .busy }) (.inr (.inr rfl)))
     have hD2 : (WA.putObj (w.heap.size + 1) (.loop { rec .ready none with state := .busy })).heap[W.heap.size]? = some (.cells (cs x) ty (0, 0)) := (World.putObj_heap_other (by omega)).trans hDA
     have hTn : ¬ T (w.heap.size + 1) := fun h => by rcases hT2 _ h with h | h <;> omega
     have hTd : ¬ T w.heap.size := fun h => by rcases hT2 _ h with h | h <;> omega
     have hszA : w.heap.size + 2 ≤ (WA.putObj (w.heap.size + 1) (.loop { rec .ready none with state := .busy })).heap.size := by simp; omega
     refine wpIn_mono (hbody _ W.heap.size pre x _ hi2 hsp hszA hD2 (by omega)) ?_
     have fin : ∀ (jump : Option Code) (W3 : World), Keeps T (WA.putObj (w.heap.size + 1) (.loop { rec .ready none with state := .busy })) W3 →
      (Instr.endRound (w.heap.size + 1) jump).run P W3 = .ok (.bool jump.isNone) (W3.putObj (w.heap.size + 1) (.loop (rec (if jump.isNone then .ready else .done) jump))) ∧
      w.heap.size + 2 ≤ W3.heap.size ∧
      (W3.putObj (w.heap.size + 1) (.loop (rec (if jump.isNone then .ready else .done) jump))).heap[w.heap.size + 1]? = some (.loop (rec (if jump.isNone then .ready else .done) jump)) ∧
      (W3.putObj (w.heap.size + 1) (.loop (rec (if jump.isNone then .ready else .done) jump))).heap[w.heap.size]? = some (.deferred (some [])) := fun jump W3 hk3 => by
      have hl3 := hk3.heap hl2 hTn
      have hr := run_endRound (P := P) jump hl3
      rw [hrec] at hr ⊢
      have hlt3 := (Array.getElem?_eq_some_iff.1 hl3).1
      exact ⟨hr, by omega, World.putObj_heap_same hlt3, (World.putObj_heap_other (by omega)).trans (hk3.heap hk2 hTd)⟩
     have put : ∀ (s : List α) (jump : Option Code) (W3 : World), I s W3 → I s (W3.putObj (w.heap.size + 1) (.loop (rec (if jump.isNone then .ready else .done) jump))) := fun s jump W3 h => hI _ _ _ h (Keeps.putObj _ _ _ (.inr (.inr rfl)))
     have putx : ∀ (c : Code) (s : List α) (jump : Option Code) (W3 : World), Ix c s W3 → Ix c s (W3.putObj (w.heap.size + 1) (.loop (rec (if jump.isNone then .ready else .done) jump))) := fun c s jump W3 h => hIx _ _ _ _ h (Keeps.putObj _ _ _ (.inr (.inr rfl)))
     rintro e a3 W3 hp
     cases e with
     | normal =>
       obtain ⟨hk3, hi3⟩ := hp
       obtain ⟨hr, hs3, hl4, hk4⟩ := fin none W3 hk3
       refine ⟨_, _, hr, .inl ⟨rfl, ⟨⟨put _ none _ hi3, by simpa using hs3⟩, hl4, hk4⟩, ?_⟩⟩
       exact (hw2.trans hk3 (fun k _ h => hT k h)).trans (Keeps.putObj (S := fun k => ¬ own k) _ _ _ hLown) (fun _ _ h => h)
     | ret =>
       obtain ⟨hk3, hi3⟩ := hp
       obtain ⟨hr, hs3, hl4, hk4⟩ := fin (some .ret) W3 hk3
       exact ⟨_, _, hr, .inr ⟨rfl, ⟨.ret, putx _ _ (some .ret) _ hi3, hl4, hk4⟩, (hw2.trans hk3 (fun k _ h => hT k h)).trans (Keeps.putObj (S := fun k => ¬ own k) _ _ _ hLown) (fun _ _ h => h)⟩⟩
     | exit id =>
       obtain ⟨hk3, hi3⟩ := hp
       obtain ⟨hr, hs3, hl4, hk4⟩ := fin (some (.exit id)) W3 hk3
       exact ⟨_, _, hr, .inr ⟨rfl, ⟨.exit id, putx _ _ (some (.exit id)) _ hi3, hl4, hk4⟩, (hw2.trans hk3 (fun k _ h => hT k h)).trans (Keeps.putObj (S := fun k => ¬ own k) _ _ _ hLown) (fun _ _ h => h)⟩⟩
     | goto t =>
       obtain ⟨hk3, hi3⟩ := hp
       obtain ⟨hr, hs3, hl4, hk4⟩ := fin (some (.goto t)) W3 hk3
       exact ⟨_, _, hr, .inr ⟨rfl, ⟨.goto t, putx _ _ (some (.goto t)) _ hi3, hl4, hk4⟩, (hw2.trans hk3 (fun k _ h => hT k h)).trans (Keeps.putObj (S := fun k => ¬ own k) _ _ _ hLown) (fun _ _ h => h)⟩⟩
     | panic ch => exact hp.elim
     | outgrown => exact hp.elim
   · rintro e W2 ⟨⟨v, rfl⟩, (⟨xs, hS, ⟨hi, _⟩, hl, hk⟩ | ⟨pre, hSp, c, hi, hl, hk⟩)⟩
     · exact ⟨none, _, by have := run_endLoop (P := P) hl (by rw [hrec]; simp); rw [hrec] at this; exact this, hdone _ xs _ hS (hI _ _ _ hi (Keeps.putObj _ _ _ (.inr (.inr rfl)))) (Nat.le_refl _) ((World.putObj_heap_other (by omega)).trans hk)⟩
     · exact ⟨some c, _, by have := run_endLoop (P := P) hl (by rw [hrec]; simp); rw [hrec] at this; exact this, hstop _ c pre _ hSp (hIx _ _ _ _ hi (Keeps.putObj _ _ _ (.inr (.inr rfl)))) (Nat.le_refl _) ((World.putObj_heap_other (by omega)).trans hk)⟩
#print axioms qen
end
section
open Go.RowKit
variable {P : Program}
end
end Go.Proofs.YtfpcgcbehdogjaaGreatDoor
