/-
  Lemmas on which LTopTruncates rests, packed out of the texts PRange3 PRange5; each for all arguments under the hypotheses it names.
-/
import Derived.Test.YtfpcgcbehdogjaaGreatDoorT02
namespace Go.Proofs.YtfpcgcbehdogjaaGreatDoor
section
open Go.RowKit
def SeqAt {α : Type} (P : Program) (g : Nat) (lb : Array Value) (encs : α → Array Value) (own tr : Nat → Prop) (S Sp : List α → Prop) (W : World) : Prop :=
 ∀ (l : Nat) (J Jx : List α → World → Prop),
  (∀ s A B, J s A → Keeps tr A B → J s B) → (∀ s A B, Jx s A → Keeps tr A B → Jx s B) →
  (∀ pre x W1, J pre W1 → Sp (pre ++ [x]) → YieldAt Fence.wide 0 P l (encs x) W1 fun e W' =>
    (e = .returned (.bool true) ∧ J (pre ++ [x]) W' ∧ Keeps (fun k => ¬ own k) W1 W') ∨ (e = .returned (.bool false) ∧ Jx (pre ++ [x]) W' ∧ Keeps (fun k => ¬ own k) W1 W')) →
  J [] W →
  CallsIn Fence.wide 0 P g (#[.func (.yield l) #[] #[]] ++ lb) W fun e W' => (∃ v, e = .returned v) ∧ ((∃ xs, S xs ∧ J xs W') ∨ (∃ pre, Sp pre ∧ Jx pre W'))
variable {P : Program}
theorem qeo {α : Type} {g : Operand} {ps : Array Tmp} {assign body : Code} {Q : Exit → Act → World → Prop} {a : Act} {w : World}
 {gf : Nat} {lb : Array Value} (hg : a.eval g = .func (.func gf) #[] lb) (eg : ∀ args w, (callFunc gf args).run P w = .ok (.enter gf args) w)
 {encs : α → Array Value} {own tr T : Nat → Prop} {S Sp : List α → Prop} (hseq : ∀ W, W.heap.size = w.heap.size + 2 → Keeps (fun _ => False) w W → SeqAt P gf lb encs own tr S Sp W) (hps : ∀ x, (encs x).size = ps.size)
 (htr : ∀ k, tr k → own k) (hown : ∀ k, own k → k < w.heap.size ∨ w.heap.size + 2 ≤ k) (hT : ∀ k, T k → ¬ own k) (hT2 : ∀ k, T k → k < w.heap.size ∨ w.heap.size + 2 ≤ k)
 (I : List α → World → Prop) (Ix : Code → List α → World → Prop)
 (hI : ∀ s A B, I s A → Keeps (fun k => tr k ∨ k = w.heap.size ∨ k = w.heap.size + 1) A B → I s B)
 (hIx : ∀ c s A B, Ix c s A → Keeps (fun k => tr k ∨ k = w.heap.size ∨ k = w.heap.size + 1) A B → Ix c s B) (h0 : I [] w) (a₁ : α → Nat → Act) (cs : α → Array Value) (ty : TypeId)
 (hassign : ∀ (l : Nat) (x : α) (W : World) (K : Act → World → Prop), K (a₁ x W.heap.size) (W.alloc (.cells (cs x) ty)) →
   assign.wpIn (Fence.wide.inRound l) 0 P (Exit.then K (fun _ _ _ => False)) { tmps := (ps.zip (encs x)).foldl (fun t (p, v) => t.setIfInBounds p v) a.tmps, defers := [] } W)
 (hbody : ∀ (l D : Nat) (pre : List α) (x : α) (W : World), I pre W → Sp (pre ++ [x]) → w.heap.size + 2 ≤ W.heap.size → W.heap[D]? = some (.cells (cs x) ty (0, 0)) → w.heap.size + 2 ≤ D → body.wpIn (Fence.wide.inRound l) 0 P (bodyC T I Ix (pre ++ [x]) W) (a₁ x D) W)
 (hdone : ∀ (D : Nat) (xs : List α) (W : World), S xs → I xs W → w.heap.size ≤ D → W.heap[D]? = some (.deferred (some [])) → Q .normal { a with defers := { target := .collected D, args := #[] } :: a.defers } W)
 (hstop : ∀ (D : Nat) (c : Code) (pre : List α) (W : World), Sp pre → Ix c pre W → w.heap.size ≤ D → W.heap[D]? = some (.deferred (some [])) → c.wpIn Fence.wide 0 P Q { a with defers := { target := .collected D, args := #[] } :: a.defers } W) :
 (Code.rangeFunc g ps assign body).wpIn Fence.wide 0 P Q a w := by
 refine wpIn_rangeFunc ?_
 intro fn hfn
 obtain ⟨rec, hrec⟩ : ∃ rec : LoopState → Option Code → Loop, rec = fun st pe => { state := st, pending := pe, fn, tmps := a.tmps, params := ps, assign, body, defers := w.heap.size } := ⟨_, rfl⟩
 obtain ⟨W1, hW1⟩ : ∃ W1, (w.alloc (.deferred (some []))).alloc (.loop (rec .ready none)) = W1 := ⟨_, rfl⟩
 have hL1 : W1.heap[w.heap.size + 1]? = some (.loop (rec .ready none)) := by
  rw [← hW1]; have := World.alloc_heap_new (w.alloc (.deferred (some []))) (.loop (rec .ready none)); rwa [World.size_alloc] at this
 have hK1 : W1.heap[w.heap.size]? = some (.deferred (some [])) := by
  rw [← hW1]; exact (Below.heap_alloc _ _ _ (by simp)).trans (World.alloc_heap_new w _)
 have hKW : ∀ S : Nat → Prop, Keeps S w W1 := fun S => by rw [← hW1]; exact ((Keeps.refl S w).alloc _).alloc _
 have hI1 : I [] W1 := hI _ _ _ h0 (hKW _)
 refine ⟨w.heap.size + 1, [{ target := .collected w.heap.size, args := #[] }], W1, { target := .fn (.func gf) lb, args := #[.func (.yield (w.heap.size + 1)) #[] #[]] }, W1, gf,
  #[.func (.yield (w.heap.size + 1)) #[] #[]] ++ lb, W1, ?_, ?_, ?_, ?_, (fun h => by cases h), ?_⟩
 · rw [← hW1, hrec]; exact run_enterLoop_outer _ _ _ _ _
 · simp only [resolve, hg]
   simp [go_sem]
 · intro f' _; exact trivial
 · simp [invoke, go_sem, eg]
 · have hDown : ¬ own w.heap.size := fun h => by rcases hown _ h with h | h <;> omega
   have hLown : ¬ own (w.heap.size + 1) := fun h => by rcases hown _ h with h | h <;> omega
   refine (hseq W1 (by rw [← hW1]; simp) (hKW _) (w.heap.size + 1)
    (fun pre W => (I pre W ∧ w.heap.size + 2 ≤ W.heap.size) ∧ W.heap[w.heap.size + 1]? = some (.loop (rec .ready none)) ∧ W.heap[w.heap.size]? = some (.deferred (some [])))
    (fun pre W => ∃ c, Ix c pre W ∧ W.heap[w.heap.size + 1]? = some (.loop (rec .done (some c))) ∧ W.heap[w.heap.size]? = some (.deferred (some [])))
    (fun s A B hs k => ⟨⟨hI s A B hs.1.1 (k.mono (fun _ _ h => .inl h)), Nat.le_trans hs.1.2 k.size⟩, k.heap hs.2.1 (fun h => hLown (htr _ h)), k.heap hs.2.2 (fun h => hDown (htr _ h))⟩)
    (fun s A B hs k => by
      obtain ⟨c, hc, hl, hk⟩ := hs
      exact ⟨c, hIx c s A B hc (k.mono (fun _ _ h => .inl h)), k.heap hl (fun h => hLown (htr _ h)), k.heap hk (fun h => hDown (htr _ h))⟩)
    ?_ ⟨⟨hI1, by have := (Array.getElem?_eq_some_iff.1 hL1).1; omega⟩, hL1, hK1⟩).mono ?_
   · rintro pre x W ⟨⟨hi, hsz⟩, hl, hk⟩ hsp
     have hlt : w.heap.size + 1 < W.heap.size := (Array.getElem?_eq_some_iff.1 hl).1
     have hy := run_yield (P := P) (args := encs x) hl (by rw [hrec]; exact hps x)
     rw [hrec] at hy
     obtain ⟨WA, hWA⟩ : ∃ WA, WA = W.alloc (.cells (cs x) ty) := ⟨_, rfl⟩
     have hKA : ∀ S : Nat → Prop, Keeps S W WA := fun S => by rw [hWA]; exact (Keeps.refl S W).alloc _
     have hDA : WA.heap[W.heap.size]? = some (.cells (cs x) ty (0, 0)) := by rw [hWA]; exact heap_alloc_new _ _
     have hlA : WA.heap[w.heap.size + 1]? = some (.loop (rec .ready none)) := (hKA (fun _ => False)).heap hl (fun h => h)
     have hkA : WA.heap[w.heap.size]? = some (.deferred (some [])) := (hKA (fun _ => False)).heap hk (fun h => h)
     have hiA : I pre WA := hI _ _ _ hi (hKA _)
     refine ⟨fn, _, assign, body, hy, roundIn_of_wpIn hfn (hassign _ x W _ ⟨_, (by rw [← hWA]; exact run_beginRound hlA (by rw [hrec])), ?_⟩)⟩
     have hltA : w.heap.size + 1 < WA.heap.size := (Array.getElem?_eq_some_iff.1 hlA).1
     have hl2 : (WA.putObj (w.heap.size + 1) (.loop { rec .ready none with state := .busy })).heap[w.heap.size + 1]? = some (.loop { rec .ready none with state := .busy }) := World.putObj_heap_same hltA
     have hk2 : (WA.putObj (w.heap.size + 1) (.loop { rec .ready none with state := .busy })).heap[w.heap.size]? = some (.deferred (some [])) := (World.putObj_heap_other (by omega)).trans hkA
     have hw2 : Keeps (fun k => ¬ own k) W (WA.putObj (w.heap.size + 1) (.loop { rec .ready none with state := .busy })) := (hKA (fun k => ¬ own k)).trans (Keeps.putObj _ _ _ hLown) (fun _ _ h => h)
     have hi2 := hI _ _ _ hiA (Keeps.putObj WA (w.heap.size + 1) (.loop { rec .ready none with state := .busy }) (.inr (.inr rfl)))
     have hD2 : (WA.putObj (w.heap.size + 1) (.loop { rec .ready none with state := .busy })).heap[W.heap.size]? = some (.cells (cs x) ty (0, 0)) := (World.putObj_heap_other (by omega)).trans hDA
     have hTn : ¬ T (w.heap.size + 1) := fun h => by rcases hT2 _ h with h | h <;> omega
     have hTd : ¬ T w.heap.size := fun h => by rcases hT2 _ h with h | h <;> omega
     have hszA : w.heap.size + 2 ≤ (WA.putObj (w.heap.size + 1) (.loop { rec .ready none with state := .busy })).heap.size := by simp; omega
     refine wpIn_mono (hbody _ W.heap.size pre x _ hi2 hsp hszA hD2 (by omega)) ?_
     have fin : ∀ (jump : Option Code) (W3 : World), Keeps T (WA.putObj (w.heap.size + 1) (.loop { rec .ready none with state := .busy })) W3 →
      (Instr.endRound (w.heap.size + 1) jump).run P W3 = .ok (.bool jump.isNone) (W3.putObj (w.heap.size + 1) (.loop (rec (if jump.isNone then .ready else .done) jump))) ∧
      w.heap.size + 2 ≤ W3.heap.size ∧
      (W3.putObj (w.heap.size + 1) (.loop (rec (if jump.isNone then .ready else .done) jump))).heap[w.heap.size + 1]? = some (.loop (rec (if jump.isNone then .ready else .done) jump)) ∧
      (W3.putObj (w.heap.size + 1) (.loop (rec (if jump.isNone then .ready else .done) jump))).heap[w.heap.size]? = some (.deferred (some [])) := fun jump W3 hk3 => by
      have hl3 := hk3.heap hl2 hTn
      have hr := run_endRound (P := P) jump hl3
      rw [hrec] at hr ⊢
      have hlt3 := (Array.getElem?_eq_some_iff.1 hl3).1
      exact ⟨hr, by omega, World.putObj_heap_same hlt3, (World.putObj_heap_other (by omega)).trans (hk3.heap hk2 hTd)⟩
     have put : ∀ (s : List α) (jump : Option Code) (W3 : World), I s W3 → I s (W3.putObj (w.heap.size + 1) (.loop (rec (if jump.isNone then .ready else .done) jump))) := fun s jump W3 h => hI _ _ _ h (Keeps.putObj _ _ _ (.inr (.inr rfl)))
     have putx : ∀ (c : Code) (s : List α) (jump : Option Code) (W3 : World), Ix c s W3 → Ix c s (W3.putObj (w.heap.size + 1) (.loop (rec (if jump.isNone then .ready else .done) jump))) := fun c s jump W3 h => hIx _ _ _ _ h (Keeps.putObj _ _ _ (.inr (.inr rfl)))
     rintro e a3 W3 hp
     cases e with
     | normal =>
       obtain ⟨hk3, hi3⟩ := hp
       obtain ⟨hr, hs3, hl4, hk4⟩ := fin none W3 hk3
       refine ⟨_, _, hr, .inl ⟨rfl, ⟨⟨put _ none _ hi3, by simpa using hs3⟩, hl4, hk4⟩, ?_⟩⟩
       exact (hw2.trans hk3 (fun k _ h => hT k h)).trans (Keeps.putObj (S := fun k => ¬ own k) _ _ _ hLown) (fun _ _ h => h)
     | ret =>
       obtain ⟨hk3, hi3⟩ := hp
       obtain ⟨hr, hs3, hl4, hk4⟩ := fin (some .ret) W3 hk3
       exact ⟨_, _, hr, .inr ⟨rfl, ⟨.ret, putx _ _ (some .ret) _ hi3, hl4, hk4⟩, (hw2.trans hk3 (fun k _ h => hT k h)).trans (Keeps.putObj (S := fun k => ¬ own k) _ _ _ hLown) (fun _ _ h => h)⟩⟩
     | exit id =>
       obtain ⟨hk3, hi3⟩ := hp
       obtain ⟨hr, hs3, hl4, hk4⟩ := fin (some (.exit id)) W3 hk3
       exact ⟨_, _, hr, .inr ⟨rfl, ⟨.exit id, putx _ _ (some (.exit id)) _ hi3, hl4, hk4⟩, (hw2.trans hk3 (fun k _ h => hT k h)).trans (Keeps.putObj (S := fun k => ¬ own k) _ _ _ hLown) (fun _ _ h => h)⟩⟩
     | goto t =>
       obtain ⟨hk3, hi3⟩ := hp
       obtain ⟨hr, hs3, hl4, hk4⟩ := fin (some (.goto t)) W3 hk3
       exact ⟨_, _, hr, .inr ⟨rfl, ⟨.goto t, putx _ _ (some (.goto t)) _ hi3, hl4, hk4⟩, (hw2.trans hk3 (fun k _ h => hT k h)).trans (Keeps.putObj (S := fun k => ¬ own k) _ _ _ hLown) (fun _ _ h => h)⟩⟩
     | panic ch => exact hp.elim
     | outgrown => exact hp.elim
   · rintro e W2 ⟨⟨v, rfl⟩, (⟨xs, hS, ⟨hi, _⟩, hl, hk⟩ | ⟨pre, hSp, c, hi, hl, hk⟩)⟩
     · exact ⟨none, _, by have := run_endLoop (P := P) hl (by rw [hrec]; simp); rw [hrec] at this; exact this, hdone _ xs _ hS (hI _ _ _ hi (Keeps.putObj _ _ _ (.inr (.inr rfl)))) (Nat.le_refl _) ((World.putObj_heap_other (by omega)).trans hk)⟩
     · exact ⟨some c, _, by have := run_endLoop (P := P) hl (by rw [hrec]; simp); rw [hrec] at this; exact this, hstop _ c pre _ hSp (hIx _ _ _ _ hi (Keeps.putObj _ _ _ (.inr (.inr rfl)))) (Nat.le_refl _) ((World.putObj_heap_other (by omega)).trans hk)⟩
#print axioms qeo
end
section
open Go.RowKit
def Tb (pc : Nat → TypeId → Prop) (W : World) (k : Nat) : Prop := ∃ c t fr, W.heap[k]? = some (.cells c t fr) ∧ pc k t
def Ti (pc : Nat → TypeId → Prop) (q : Nat) (W : World) (k : Nat) : Prop := Tb pc W k ∨ (q ≤ k ∧ ¬ ∃ c t fr, W.heap[k]? = some (.cells c t fr))
theorem Ti.congr {pc : Nat → TypeId → Prop} {q : Nat} {A B : World} {k : Nat} (h : B.heap[k]? = A.heap[k]?) (hk : Ti pc q B k) : Ti pc q A k := by
 unfold Ti Tb at *
 rw [h] at hk
 exact hk
theorem Tb.congr {pc : Nat → TypeId → Prop} {A B : World} {k : Nat} (h : B.heap[k]? = A.heap[k]?) (hk : Tb pc B k) : Tb pc A k := by
 unfold Tb at *
 rw [h] at hk
 exact hk
theorem Keeps.ti {pc : Nat → TypeId → Prop} {q : Nat} {A B C : World} (h : Keeps (Ti pc q A) A B) (k : Keeps (Ti pc q B) B C) : Keeps (Ti pc q A) A C :=
 h.trans k (fun j hj e => Classical.byContradiction (fun hn => hn (e.congr (h.block j hj hn))))
theorem Keeps.tb {pc : Nat → TypeId → Prop} {A B C : World} (h : Keeps (Tb pc A) A B) (k : Keeps (Tb pc B) B C) : Keeps (Tb pc A) A C :=
 h.trans k (fun j hj e => Classical.byContradiction (fun hn => hn (e.congr (h.block j hj hn))))
theorem Keeps.toTi {pc : Nat → TypeId → Prop} {q : Nat} {A B : World} (h : Keeps (Tb pc A) A B) : Keeps (Ti pc q A) A B := h.mono (fun _ _ e => .inl e)
theorem not_ti {pc : Nat → TypeId → Prop} {q : Nat} {W : World} {k : Nat} {c : Array Value} {t : TypeId} {fr : Nat × Nat} (h : W.heap[k]? = some (.cells c t fr)) (hp : ¬ pc k t) : ¬ Ti pc q W k := by
 rintro (⟨c', t', fr', h', hp'⟩ | ⟨_, hn⟩)
 · rw [h] at h'
   simp only [Option.some.injEq, Obj.cells.injEq] at h'
   obtain ⟨_, rfl, _⟩ := h'
   exact hp hp'
 · exact hn ⟨_, _, _, h⟩
theorem not_tb {pc : Nat → TypeId → Prop} {W : World} {k : Nat} {o : Obj} (h : W.heap[k]? = some o) (ho : ∀ c t fr, o ≠ .cells c t fr) : ¬ Tb pc W k := by
 rintro ⟨c', t', fr', h', _⟩
 rw [h] at h'
 exact ho _ _ _ (Option.some.inj h')
def SeqT {α : Type} (P : Program) (g : Nat) (lb : Array Value) (encs : α → Array Value) (pc : Nat → TypeId → Prop) (q : Nat) (S Sp : List α → Prop) (Qx : α → World → Prop) (W : World) : Prop :=
 ∀ (l : Nat) (J Jx : List α → World → Prop),
  (∀ s A B, J s A → Keeps (fun _ => False) A B → J s B) → (∀ s A B, Jx s A → Keeps (fun _ => False) A B → Jx s B) →
  (∀ pre x W1, J pre W1 → Sp (pre ++ [x]) → Qx x W1 → YieldAt Fence.wide 0 P l (encs x) W1 fun e W' =>
    (e = .returned (.bool true) ∧ J (pre ++ [x]) W' ∧ Keeps (Ti pc q W1) W1 W') ∨ (e = .returned (.bool false) ∧ Jx (pre ++ [x]) W' ∧ Keeps (Ti pc q W1) W1 W')) →
  J [] W →
  CallsIn Fence.wide 0 P g (#[.func (.yield l) #[] #[]] ++ lb) W fun e W' => (∃ v, e = .returned v) ∧ ((∃ xs, S xs ∧ J xs W') ∨ (∃ pre, Sp pre ∧ Jx pre W'))
def bodyT {α : Type} (pc : Nat → TypeId → Prop) (I : List α → World → Prop) (Ix : Code → List α → World → Prop) (xs : List α) (W : World) : Exit → Act → World → Prop
 | .normal, _, W' => Keeps (Tb pc W) W W' ∧ I xs W'
 | .ret, _, W' => Keeps (Tb pc W) W W' ∧ Ix .ret xs W'
 | .exit id, _, W' => Keeps (Tb pc W) W W' ∧ Ix (.exit id) xs W'
 | .goto t, _, W' => Keeps (Tb pc W) W W' ∧ Ix (.goto t) xs W'
 | .panic _, _, _ => False
 | .outgrown, _, _ => False
variable {P : Program}
theorem qhq {α : Type} {g : Operand} {ps : Array Tmp} {assign body : Code} {Q : Exit → Act → World → Prop} {a : Act} {w : World}
 {gf : Nat} {lb : Array Value} (hg : a.eval g = .func (.func gf) #[] lb) (eg : ∀ args w, (callFunc gf args).run P w = .ok (.enter gf args) w)
 {encs : α → Array Value} {pc : Nat → TypeId → Prop} {q : Nat} {S Sp : List α → Prop} {Qx : α → World → Prop} (hseq : ∀ W, W.heap.size = w.heap.size + 2 → Keeps (fun _ => False) w W → SeqT P gf lb encs pc q S Sp Qx W) (hq : q ≤ w.heap.size) (hQx : ∀ x A B, Qx x A → Keeps (fun k => k = w.heap.size ∨ k = w.heap.size + 1) A B → Qx x B) (hps : ∀ x, (encs x).size = ps.size)
 (I : List α → World → Prop) (Ix : Code → List α → World → Prop)
 (hI : ∀ s A B, I s A → Keeps (fun k => k = w.heap.size ∨ k = w.heap.size + 1) A B → I s B)
 (hIx : ∀ c s A B, Ix c s A → Keeps (fun k => k = w.heap.size ∨ k = w.heap.size + 1) A B → Ix c s B) (h0 : I [] w) (a₁ : α → Act)
 (hassign : ∀ (l : Nat) (x : α) (W : World) (K : Act → World → Prop), K (a₁ x) W →
   assign.wpIn (Fence.wide.inRound l) 0 P (Exit.then K (fun _ _ _ => False)) { tmps := (ps.zip (encs x)).foldl (fun t (p, v) => t.setIfInBounds p v) a.tmps, defers := [] } W)
 (hbody : ∀ (l : Nat) (pre : List α) (x : α) (W : World), I pre W → Sp (pre ++ [x]) → Qx x W → w.heap.size + 2 ≤ W.heap.size → body.wpIn (Fence.wide.inRound l) 0 P (bodyT pc I Ix (pre ++ [x]) W) (a₁ x) W)
 (hdone : ∀ (D : Nat) (xs : List α) (W : World), S xs → I xs W → w.heap.size ≤ D → W.heap[D]? = some (.deferred (some [])) → Q .normal { a with defers := { target := .collected D, args := #[] } :: a.defers } W)
 (hstop : ∀ (D : Nat) (c : Code) (pre : List α) (W : World), Sp pre → Ix c pre W → w.heap.size ≤ D → W.heap[D]? = some (.deferred (some [])) → c.wpIn Fence.wide 0 P Q { a with defers := { target := .collected D, args := #[] } :: a.defers } W) :
 (Code.rangeFunc g ps assign body).wpIn Fence.wide 0 P Q a w := by
 refine wpIn_rangeFunc ?_
 intro fn hfn
 obtain ⟨rec, hrec⟩ : ∃ rec : LoopState → Option Code → Loop, rec = fun st pe => { state := st, pending := pe, fn, tmps := a.tmps, params := ps, assign, body, defers := w.heap.size } := ⟨_, rfl⟩
 obtain ⟨W1, hW1⟩ : ∃ W1, (w.alloc (.deferred (some []))).alloc (.loop (rec .ready none)) = W1 := ⟨_, rfl⟩
 have hL1 : W1.heap[w.heap.size + 1]? = some (.loop (rec .ready none)) := by
  rw [← hW1]; have := World.alloc_heap_new (w.alloc (.deferred (some []))) (.loop (rec .ready none)); rwa [World.size_alloc] at this
 have hK1 : W1.heap[w.heap.size]? = some (.deferred (some [])) := by
  rw [← hW1]; exact (Below.heap_alloc _ _ _ (by simp)).trans (World.alloc_heap_new w _)
 have hKW : ∀ S : Nat → Prop, Keeps S w W1 := fun S => by rw [← hW1]; exact ((Keeps.refl S w).alloc _).alloc _
 have hI1 : I [] W1 := hI _ _ _ h0 (hKW _)
 refine ⟨w.heap.size + 1, [{ target := .collected w.heap.size, args := #[] }], W1, { target := .fn (.func gf) lb, args := #[.func (.yield (w.heap.size + 1)) #[] #[]] }, W1, gf,
  #[.func (.yield (w.heap.size + 1)) #[] #[]] ++ lb, W1, ?_, ?_, ?_, ?_, (fun h => by cases h), ?_⟩
 · rw [← hW1, hrec]; exact run_enterLoop_outer _ _ _ _ _
 · simp only [resolve, hg]
   simp [go_sem]
 · intro f' _; exact trivial
 · simp [invoke, go_sem, eg]
 · refine (hseq W1 (by rw [← hW1]; simp) (hKW _) (w.heap.size + 1)
    (fun pre W => (I pre W ∧ w.heap.size + 2 ≤ W.heap.size) ∧ W.heap[w.heap.size + 1]? = some (.loop (rec .ready none)) ∧ W.heap[w.heap.size]? = some (.deferred (some [])))
    (fun pre W => ∃ c, Ix c pre W ∧ W.heap[w.heap.size + 1]? = some (.loop (rec .done (some c))) ∧ W.heap[w.heap.size]? = some (.deferred (some [])))
    (fun s A B hs k => ⟨⟨hI s A B hs.1.1 (k.mono (fun _ _ h => h.elim)), Nat.le_trans hs.1.2 k.size⟩, k.heap hs.2.1 (fun h => h), k.heap hs.2.2 (fun h => h)⟩)
    (fun s A B hs k => by
      obtain ⟨c, hc, hl, hk⟩ := hs
      exact ⟨c, hIx c s A B hc (k.mono (fun _ _ h => h.elim)), k.heap hl (fun h => h), k.heap hk (fun h => h)⟩)
    ?_ ⟨⟨hI1, by have := (Array.getElem?_eq_some_iff.1 hL1).1; omega⟩, hL1, hK1⟩).mono ?_
   · rintro pre x W ⟨⟨hi, hsz⟩, hl, hk⟩ hsp hqx
     have hlt : w.heap.size + 1 < W.heap.size := (Array.getElem?_eq_some_iff.1 hl).1
     have hy := run_yield (P := P) (args := encs x) hl (by rw [hrec]; exact hps x)
     rw [hrec] at hy
     refine ⟨fn, _, assign, body, hy, roundIn_of_wpIn hfn (hassign _ x W _ ⟨_, run_beginRound hl (by rw [hrec]), ?_⟩)⟩
     have hl2 : (W.putObj (w.heap.size + 1) (.loop { rec .ready none with state := .busy })).heap[w.heap.size + 1]? = some (.loop { rec .ready none with state := .busy }) := World.putObj_heap_same hlt
     have hk2 : (W.putObj (w.heap.size + 1) (.loop { rec .ready none with state := .busy })).heap[w.heap.size]? = some (.deferred (some [])) := (World.putObj_heap_other (by omega)).trans hk
     have hw2 : Keeps (Ti pc q W) W (W.putObj (w.heap.size + 1) (.loop { rec .ready none with state := .busy })) := Keeps.putObj _ _ _ (.inr ⟨by omega, by rw [hl]; rintro ⟨c, t, fr, e⟩; cases e⟩)
     have hi2 := hI _ _ _ hi (Keeps.putObj W (w.heap.size + 1) (.loop { rec .ready none with state := .busy }) (.inr rfl))
     obtain ⟨Wb, hWb⟩ : ∃ Wb, Wb = W.putObj (w.heap.size + 1) (.loop { rec .ready none with state := .busy }) := ⟨_, rfl⟩
     have hTn : ¬ Tb pc Wb (w.heap.size + 1) := not_tb (hWb ▸ hl2) (fun _ _ _ e => by cases e)
     have hTd : ¬ Tb pc Wb w.heap.size := not_tb (hWb ▸ hk2) (fun _ _ _ e => by cases e)
     rw [hWb] at hTn hTd
     refine wpIn_mono (hbody _ pre x _ hi2 hsp (hQx _ _ _ hqx (Keeps.putObj _ _ _ (.inr rfl))) (by simpa using hsz)) ?_
     have fin : ∀ (jump : Option Code) (W3 : World), Keeps (Tb pc (W.putObj (w.heap.size + 1) (.loop { rec .ready none with state := .busy }))) (W.putObj (w.heap.size + 1) (.loop { rec .ready none with state := .busy })) W3 →
      (Instr.endRound (w.heap.size + 1) jump).run P W3 = .ok (.bool jump.isNone) (W3.putObj (w.heap.size + 1) (.loop (rec (if jump.isNone then .ready else .done) jump))) ∧
      w.heap.size + 2 ≤ W3.heap.size ∧
      (W3.putObj (w.heap.size + 1) (.loop (rec (if jump.isNone then .ready else .done) jump))).heap[w.heap.size + 1]? = some (.loop (rec (if jump.isNone then .ready else .done) jump)) ∧
      (W3.putObj (w.heap.size + 1) (.loop (rec (if jump.isNone then .ready else .done) jump))).heap[w.heap.size]? = some (.deferred (some [])) := fun jump W3 hk3 => by
      have hl3 := hk3.heap hl2 hTn
      have hr := run_endRound (P := P) jump hl3
      rw [hrec] at hr ⊢
      have hlt3 := (Array.getElem?_eq_some_iff.1 hl3).1
      exact ⟨hr, by omega, World.putObj_heap_same hlt3, (World.putObj_heap_other (by omega)).trans (hk3.heap hk2 hTd)⟩
     have lp : ∀ W3, Keeps (Tb pc (W.putObj (w.heap.size + 1) (.loop { rec .ready none with state := .busy }))) (W.putObj (w.heap.size + 1) (.loop { rec .ready none with state := .busy })) W3 → Ti pc q W3 (w.heap.size + 1) := fun W3 hk3 => .inr ⟨by omega, by rw [hk3.heap hl2 hTn]; rintro ⟨c, t, fr, e⟩; cases e⟩
     have put : ∀ (s : List α) (jump : Option Code) (W3 : World), I s W3 → I s (W3.putObj (w.heap.size + 1) (.loop (rec (if jump.isNone then .ready else .done) jump))) := fun s jump W3 h => hI _ _ _ h (Keeps.putObj _ _ _ (.inr rfl))
     have putx : ∀ (c : Code) (s : List α) (jump : Option Code) (W3 : World), Ix c s W3 → Ix c s (W3.putObj (w.heap.size + 1) (.loop (rec (if jump.isNone then .ready else .done) jump))) := fun c s jump W3 h => hIx _ _ _ _ h (Keeps.putObj _ _ _ (.inr rfl))
     rintro e a3 W3 hp
     cases e with
     | normal =>
       obtain ⟨hk3, hi3⟩ := hp
       obtain ⟨hr, hs3, hl4, hk4⟩ := fin none W3 hk3
       refine ⟨_, _, hr, .inl ⟨rfl, ⟨⟨put _ none _ hi3, by simpa using hs3⟩, hl4, hk4⟩, ?_⟩⟩
       exact (hw2.ti hk3.toTi).ti (Keeps.putObj _ _ _ (lp _ hk3))
     | ret =>
       obtain ⟨hk3, hi3⟩ := hp
       obtain ⟨hr, hs3, hl4, hk4⟩ := fin (some .ret) W3 hk3
       exact ⟨_, _, hr, .inr ⟨rfl, ⟨.ret, putx _ _ (some .ret) _ hi3, hl4, hk4⟩, (hw2.ti hk3.toTi).ti (Keeps.putObj _ _ _ (lp _ hk3))⟩⟩
     | exit id =>
       obtain ⟨hk3, hi3⟩ := hp
       obtain ⟨hr, hs3, hl4, hk4⟩ := fin (some (.exit id)) W3 hk3
       exact ⟨_, _, hr, .inr ⟨rfl, ⟨.exit id, putx _ _ (some (.exit id)) _ hi3, hl4, hk4⟩, (hw2.ti hk3.toTi).ti (Keeps.putObj _ _ _ (lp _ hk3))⟩⟩
     | goto t =>
       obtain ⟨hk3, hi3⟩ := hp
       obtain ⟨hr, hs3, hl4, hk4⟩ := fin (some (.goto t)) W3 hk3
       exact ⟨_, _, hr, .inr ⟨rfl, ⟨.goto t, putx _ _ (some (.goto t)) _ hi3, hl4, hk4⟩, (hw2.ti hk3.toTi).ti (Keeps.putObj _ _ _ (lp _ hk3))⟩⟩
     | panic ch => exact hp.elim
     | outgrown => exact hp.elim
   · rintro e W2 ⟨⟨v, rfl⟩, (⟨xs, hS, ⟨hi, _⟩, hl, hk⟩ | ⟨pre, hSp, c, hi, hl, hk⟩)⟩
     · exact ⟨none, _, by have := run_endLoop (P := P) hl (by rw [hrec]; simp); rw [hrec] at this; exact this, hdone _ xs _ hS (hI _ _ _ hi (Keeps.putObj _ _ _ (.inr rfl))) (Nat.le_refl _) ((World.putObj_heap_other (by omega)).trans hk)⟩
     · exact ⟨some c, _, by have := run_endLoop (P := P) hl (by rw [hrec]; simp); rw [hrec] at this; exact this, hstop _ c pre _ hSp (hIx _ _ _ _ hi (Keeps.putObj _ _ _ (.inr rfl))) (Nat.le_refl _) ((World.putObj_heap_other (by omega)).trans hk)⟩
end
end Go.Proofs.YtfpcgcbehdogjaaGreatDoor
