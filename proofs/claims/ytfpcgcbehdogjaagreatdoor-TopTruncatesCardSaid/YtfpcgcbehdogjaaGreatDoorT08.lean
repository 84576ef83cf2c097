/-
  Lemmas on which LTopTruncates rests, packed out of the texts PRuns AApp XMem WCrcA ABridge WCrcB WCrcC WVarB XDoor; each for all arguments under the hypotheses it names.
-/
import Derived.Test.YtfpcgcbehdogjaaGreatDoorT04
import Derived.Deep.AppendLies
import Derived.Laws.Rows
import Derived.Laws.Tables
import Derived.Laws.ResultCell
import Derived.Laws.BitsLemmas
import Derived.RegionTactic
import Derived.Lib.LaidTab
namespace Go.Proofs.YtfpcgcbehdogjaaGreatDoor
section
def lead (x : Nat) : Nat → List Nat → Nat
 | 0, _ => 0
 | _ + 1, [] => 0
 | k + 1, y :: r => if y = x then lead x k r + 1 else 0
def runsF : Nat → List Nat → List (Nat × Nat)
 | 0, _ => []
 | _ + 1, [] => []
 | n + 1, x :: r => (x, lead x 127 r + 1) :: runsF n (r.drop (lead x 127 r))
def runsOf (l : List Nat) : List (Nat × Nat) := runsF l.length l
theorem lead_le (x k : Nat) (l : List Nat) : lead x k l ≤ k ∧ lead x k l ≤ l.length := by
 induction l generalizing k with
 | nil => cases k <;> simp [lead]
 | cons y r ih =>
   cases k with
   | zero => simp [lead]
   | succ k =>
     simp only [lead]
     split
     · have := ih k; simp only [List.length_cons]; omega
     · simp
theorem lead_take (x k : Nat) (l : List Nat) : l.take (lead x k l) = List.replicate (lead x k l) x := by
 induction l generalizing k with
 | nil => cases k <;> simp [lead]
 | cons y r ih =>
   cases k with
   | zero => simp [lead]
   | succ k =>
     simp only [lead]
     split
     · rename_i h
       subst h
       simp [List.replicate_succ, ih k]
     · simp
theorem runsF_fuel (n m : Nat) (l : List Nat) (hn : l.length ≤ n) (hm : l.length ≤ m) : runsF n l = runsF m l := by
 induction n generalizing m l with
 | zero =>
   have : l = [] := List.eq_nil_of_length_eq_zero (by omega)
   subst this
   cases m <;> simp [runsF]
 | succ n ih =>
   cases l with
   | nil => cases m <;> simp [runsF]
   | cons x r =>
     cases m with
     | zero => simp at hm
     | succ m =>
       simp only [runsF]
       rw [ih m _ (by simp only [List.length_cons, List.length_drop] at hn ⊢; omega) (by simp only [List.length_cons, List.length_drop] at hm ⊢; omega)]
theorem runsOf_nil : runsOf [] = [] := rfl
theorem runsOf_cons (x : Nat) (r : List Nat) : runsOf (x :: r) = (x, lead x 127 r + 1) :: runsOf (r.drop (lead x 127 r)) := by
 unfold runsOf
 simp only [List.length_cons, runsF]
 rw [runsF_fuel r.length (r.drop (lead x 127 r)).length _ (by rw [List.length_drop]; omega) (Nat.le_refl _)]
theorem runsF_length (n : Nat) (l : List Nat) : (runsF n l).length ≤ l.length := by
 induction n generalizing l with
 | zero => simp [runsF]
 | succ n ih =>
   cases l with
   | nil => simp [runsF]
   | cons x r => simp only [runsF, List.length_cons]; have := ih (r.drop (lead x 127 r)); rw [List.length_drop] at this; omega
theorem qee (l : List Nat) : (runsOf l).length ≤ l.length := runsF_length _ _
def joinOf (rs : List (Nat × Nat)) : List Nat := rs.flatMap fun p => List.replicate p.2 p.1
theorem qiu (p : Nat × Nat) (rs : List (Nat × Nat)) : joinOf (p :: rs) = List.replicate p.2 p.1 ++ joinOf rs := by simp [joinOf]
theorem joinOf_runsF (n : Nat) (l : List Nat) (hn : l.length ≤ n) : joinOf (runsF n l) = l := by
 induction n generalizing l with
 | zero =>
   have : l = [] := List.eq_nil_of_length_eq_zero (by omega)
   subst this; rfl
 | succ n ih =>
   cases l with
   | nil => rfl
   | cons x r =>
     simp only [runsF, qiu]
     rw [ih _ (by simp only [List.length_cons, List.length_drop] at hn ⊢; omega), List.replicate_succ, ← lead_take x 127 r, List.cons_append, List.take_append_drop]
theorem joinOf_runsOf (l : List Nat) : joinOf (runsOf l) = l := joinOf_runsF _ _ (Nat.le_refl _)
def canonR : Nat × Nat → List (Nat × Nat) → Prop
 | _, [] => True
 | last, p :: rs => 1 ≤ p.2 ∧ p.2 ≤ 128 ∧ ¬ (p.1 = last.1 ∧ last.2 < 128) ∧ canonR p rs
theorem lead_stop (x : Nat) : ∀ (k : Nat) (l : List Nat) (y : Nat) (r : List Nat), l.drop (lead x k l) = y :: r → lead x k l < k → y ≠ x := by
 intro k
 induction k with
 | zero => intro l y r _ h; simp [lead] at h
 | succ k ih =>
   intro l y r hd hlt
   cases l with
   | nil => simp [lead] at hd
   | cons z t =>
     simp only [lead] at hd hlt
     by_cases h : z = x
     · rw [if_pos h] at hd hlt
       exact ih t y r (by simpa using hd) (by omega)
     · rw [if_neg h] at hd
       simp only [List.drop_zero, List.cons.injEq] at hd
       rw [← hd.1]; exact h
theorem canon_runsF (n : Nat) (l : List Nat) (hn : l.length ≤ n) : ∀ last : Nat × Nat, (∀ y r, l = y :: r → ¬ (y = last.1 ∧ last.2 < 128)) → canonR last (runsF n l) := by
 induction n generalizing l with
 | zero => intro last _; simp [runsF, canonR]
 | succ n ih =>
   intro last hl
   cases l with
   | nil => simp [runsF, canonR]
   | cons x r =>
     simp only [runsF, canonR]
     have hb := lead_le x 127 r
     refine ⟨by omega, by omega, hl x r rfl, ih _ (by simp only [List.length_cons, List.length_drop] at hn ⊢; omega) _ (fun y t hd => ?_)⟩
     rintro ⟨h1, h2⟩
     simp only at h1 h2
     exact lead_stop x 127 r y t hd (by omega) h1
theorem canon_runsOf (l : List Nat) : canonR (0, 128) (runsOf l) := canon_runsF _ _ (Nat.le_refl _) _ (fun y r _ h => by simp at h)
def encRun (p : Nat × Nat) : List Bool := qab p.1 64 ++ qab (p.2 - 1) 7
def qay (rs : List (Nat × Nat)) : List Bool := rs.flatMap encRun
theorem encRun_length (p : Nat × Nat) : (encRun p).length = 71 := by simp [encRun, qad]
theorem qce (rs : List (Nat × Nat)) : (qay rs).length = 71 * rs.length := by
 induction rs with
 | nil => rfl
 | cons p rs ih => simp only [qay, List.flatMap_cons, List.length_append, encRun_length, List.length_cons] at ih ⊢; omega
theorem encRuns_cons (p : Nat × Nat) (rs : List (Nat × Nat)) : qay (p :: rs) = encRun p ++ qay rs := by simp [qay]
theorem encRuns_snoc (p : Nat × Nat) (rs : List (Nat × Nat)) : qay (rs ++ [p]) = qay rs ++ encRun p := by simp [qay]
def rget : Nat → Nat → Nat × Nat → List Bool → Nat × List (Nat × Nat) × List Bool
 | 0, _, _, b => (0, [], b)
 | f + 1, n, last, b =>
   if n = 0 then (0, [], b) else
   if b.length < 64 then (3, [], b) else
   if b.length < 71 then (3, [], b.drop 64) else
   if n < qar ((b.drop 64).take 7) + 1 ∨ (qar (b.take 64) = last.1 ∧ last.2 < 128) then (8, [], b.drop 71) else
   ((rget f (n - (qar ((b.drop 64).take 7) + 1)) (qar (b.take 64), qar ((b.drop 64).take 7) + 1) (b.drop 71)).1,
     (qar (b.take 64), qar ((b.drop 64).take 7) + 1) :: (rget f (n - (qar ((b.drop 64).take 7) + 1)) (qar (b.take 64), qar ((b.drop 64).take 7) + 1) (b.drop 71)).2.1,
     (rget f (n - (qar ((b.drop 64).take 7) + 1)) (qar (b.take 64), qar ((b.drop 64).take 7) + 1) (b.drop 71)).2.2)
def after (acc : List (Nat × Nat)) (r : Nat × List (Nat × Nat) × List Bool) : Nat × List (Nat × Nat) × List Bool := (r.1, acc ++ r.2.1, r.2.2)
theorem rget_done (f n : Nat) (last : Nat × Nat) (b : List Bool) (h : n = 0) : rget f n last b = (0, [], b) := by subst h; cases f <;> simp [rget]
theorem rget_step (f n x c : Nat) (last : Nat × Nat) (b : List Bool) (h : n ≠ 0) (h1 : 71 ≤ b.length) (hx : qar (b.take 64) = x) (hc : qar ((b.drop 64).take 7) + 1 = c) (hb : ¬ (n < c ∨ (x = last.1 ∧ last.2 < 128))) :
 rget (f + 1) n last b = after [(x, c)] (rget f (n - c) (x, c) (b.drop 71)) := by
 rw [rget, if_neg h, if_neg (by omega), if_neg (by omega), hx, hc, if_neg hb]; rfl
theorem rget_complete (pad : List Bool) : ∀ (rs : List (Nat × Nat)) (f n : Nat) (last : Nat × Nat), n ≤ f → (joinOf rs).length = n → (∀ p ∈ rs, p.1 < 18446744073709551616) → canonR last rs → rget f n last (qay rs ++ pad) = (0, rs, pad) := by
 intro rs
 induction rs with
 | nil => intro f n last hf hn _ _; rw [rget_done _ _ _ _ (by simpa [joinOf] using hn.symm)]; rfl
 | cons p rs ih =>
   rintro f n last hf hn hp ⟨h1, h2, h3, h4⟩
   obtain ⟨x, c⟩ := p
   simp only at h1 h2 h3
   rw [qiu, List.length_append, List.length_replicate] at hn
   simp only at hn
   obtain ⟨g, rfl⟩ : ∃ g, f = g + 1 := ⟨f - 1, by omega⟩
   have hx := hp (x, c) (by simp)
   simp only at hx
   have e0 : qay ((x, c) :: rs) ++ pad = qab x 64 ++ (qab (c - 1) 7 ++ (qay rs ++ pad)) := by rw [encRuns_cons]; simp [encRun]
   have e1 : (qay ((x, c) :: rs) ++ pad).take 64 = qab x 64 := by rw [e0, List.take_left' (by rw [qad])]
   have e2 : (qay ((x, c) :: rs) ++ pad).drop 64 = qab (c - 1) 7 ++ (qay rs ++ pad) := by rw [e0, List.drop_left' (by rw [qad])]
   have e3 : ((qay ((x, c) :: rs) ++ pad).drop 64).take 7 = qab (c - 1) 7 := by rw [e2, List.take_left' (by rw [qad])]
   have e4 : (qay ((x, c) :: rs) ++ pad).drop 71 = qay rs ++ pad := by
    rw [show (71 : Nat) = 64 + 7 from rfl, ← List.drop_drop, e2, List.drop_left' (by rw [qad])]
   have e5 : qar ((qay ((x, c) :: rs) ++ pad).take 64) = x := by rw [e1, qdy]; exact Nat.mod_eq_of_lt (by omega)
   have e6 : qar (((qay ((x, c) :: rs) ++ pad).drop 64).take 7) + 1 = c := by rw [e3, qdy, Nat.mod_eq_of_lt (by omega)]; omega
   have hlen : 71 ≤ (qay ((x, c) :: rs) ++ pad).length := by rw [List.length_append, qce, List.length_cons]; omega
   rw [rget_step _ _ x c _ _ (by omega) hlen e5 e6 (fun h => h.elim (fun h => by omega) h3), e4, ih g (n - c) (x, c) (by omega) (by omega) (fun p hp' => hp p (by simp [hp'])) h4]
   rfl
theorem joinOf_mem {rs : List (Nat × Nat)} {p : Nat × Nat} (hp : p ∈ rs) (h1 : 1 ≤ p.2) : p.1 ∈ joinOf rs := by
 simp only [joinOf, List.mem_flatMap]
 exact ⟨p, hp, by simp; omega⟩
theorem canonR_pos : ∀ (rs : List (Nat × Nat)) (last : Nat × Nat), canonR last rs → ∀ p ∈ rs, 1 ≤ p.2 ∧ p.2 ≤ 128 := by
 intro rs
 induction rs with
 | nil => intro _ _ p hp; simp at hp
 | cons q rs ih =>
   rintro last ⟨h1, h2, h3, h4⟩ p hp
   rcases List.mem_cons.1 hp with rfl | hp
   · exact ⟨h1, h2⟩
   · exact ih _ h4 p hp
theorem runsOf_mem {l : List Nat} {p : Nat × Nat} (hp : p ∈ runsOf l) : p.1 ∈ l ∧ 1 ≤ p.2 ∧ p.2 ≤ 128 := by
 have h := canonR_pos _ _ (canon_runsOf l) p hp
 refine ⟨?_, h⟩
 have := joinOf_mem hp h.1
 rwa [joinOf_runsOf] at this
#print axioms rget_complete
end
section
open Go.RowKit
structure ElT (P : Program) (t e : TypeId) (k L : Nat) : Prop where
 ht : P.underlying t = some (.slice e)
 hi : ∃ i z, P.info? e = some i ∧ i.zero = some z ∧ i.size = k ∧ L * i.bytes ≤ 140737488355328 ∧ z.cells.size = k
 hk : 0 < k
 hL : L ≤ maxLen
theorem infoS : (Tryz.prog.info? 9).map (fun i => (i.zero, i.size, i.bytes)) = some (some (.string { data := #[] }), 1, 16) := by kernel_rfl
theorem infoL : (Tryz.prog.info? 94).map (fun i => (i.zero, i.size, i.bytes)) = some (some (.agg #[.string { data := #[] }, .string { data := #[] }]), 2, 32) := by kernel_rfl
theorem infoX : (Tryz.prog.info? 97).map (fun i => (i.zero, i.size, i.bytes)) = some (some (.agg #[.slice none 0 0, .slice none 0 0]), 2, 48) := by kernel_rfl
theorem infoM : (Tryz.prog.info? 28).map (fun i => (i.zero, i.size, i.bytes)) = some (some (.agg #[.int .i64 0, .int .u64 0]), 2, 16) := by kernel_rfl
theorem elS : ElT Tryz.prog 132 9 1 8796093022208 := ⟨Tryz.underlying132, by obtain ⟨i, h1, h2, h3, h4⟩ := info_parts infoS; exact ⟨i, _, h1, h2, h3, by rw [h4]; decide, rfl⟩, by decide, by decide⟩
theorem elL : ElT Tryz.prog 95 94 2 4398046511104 := ⟨Tryz.underlying95, by obtain ⟨i, h1, h2, h3, h4⟩ := info_parts infoL; exact ⟨i, _, h1, h2, h3, by rw [h4]; decide, rfl⟩, by decide, by decide⟩
theorem elX : ElT Tryz.prog 37 97 2 2932031007402 := ⟨Tryz.underlying37, by obtain ⟨i, h1, h2, h3, h4⟩ := info_parts infoX; exact ⟨i, _, h1, h2, h3, by rw [h4]; decide, rfl⟩, by decide, by decide⟩
theorem elM : ElT Tryz.prog 22 28 2 8796093022208 := ⟨Tryz.underlying22, by obtain ⟨i, h1, h2, h3, h4⟩ := info_parts infoM; exact ⟨i, _, h1, h2, h3, by rw [h4]; decide, rfl⟩, by decide, by decide⟩
theorem bytes_ok {n m b L : Nat} (h : n + m ≤ L) (hb : L * b ≤ 140737488355328) : (n + m) * b ≤ 140737488355328 :=
 Nat.le_trans (Nat.mul_le_mul_right b h) hb
section
variable {P : Program} {t e : TypeId} {k L : Nat}
theorem qhg (E : ElT P t e k L) (w : World) (ty : TypeId) (B : Nat) (v x : Value) (n m : Nat) (xs ys : List Value) (hown : w.ownsRow B e k v n xs) (hx : Rd k w x m ys) (h1 : ∀ u ∈ ys, u.oneCell' = true)
 (hn : n + m ≤ L) (hB : B ≤ w.heap.size) :
 ∃ v' w', (Builtin.append_ #[t, t] ty #[v, x]).run P w = .ok v' w' ∧ w'.ownsRow B e k v' (n + m) (xs ++ ys) ∧ w.grownBy w' v.ownBlock ∧ (∀ g, v'.ownBlock = some g → v.ownBlock = some g ∨ w.heap.size ≤ g) := by
 obtain ⟨i, z, hi, hz, hsz, hby, hzs⟩ := E.hi
 obtain ⟨hl, ad, cap, rfl, hc, h⟩ := hx
 cases ad with
 | none =>
   have hm : m = 0 := by
    rcases h with h | ⟨b, off, hb, _⟩
    · exact h
    · cases hb
   subst hm
   obtain rfl : ys = [] := List.eq_nil_of_length_eq_zero (by rw [hl]; omega)
   obtain ⟨a2, c2, rfl⟩ := qac hown
   have hcc : n ≤ c2 := by
    rcases hown.2 with ⟨hv, h0⟩ | ⟨g, c3, cur, hv, _, _, h3, _⟩
    · omega
    · simp only [Value.slice.injEq] at hv; omega
   refine ⟨.slice a2 n c2, w, ?_, by simpa using hown, ⟨rfl, rfl, rfl, Nat.le_refl _, fun _ _ _ => rfl⟩, fun g hg => .inl hg⟩
   cases a2 <;> simp [Builtin.append_, run_underlying E.ht, sizeOf, typeInfo, hi, Builtin.lenOf, hcc, Builtin.firstCells, storeCells]
 | some a =>
   have hcell : ∀ j u, ys[j]? = some u → w.cell? (a.add j) = some u := by
    intro j u hj
    rcases h with h | ⟨b, off, hb, h⟩
    · subst h
      have : ys = [] := List.eq_nil_of_length_eq_zero (by rw [hl]; omega)
      subst this
      simp at hj
    · obtain rfl := Option.some.inj hb
      rw [show ((⟨b, off, none⟩ : Addr).add j) = ⟨b, off + j, none⟩ from by unfold Addr.add; split <;> simp_all]
      exact h j u hj
   obtain ⟨v', w', hr, ho, hg, _, hn2⟩ := qcr (P := P) w B t ty e i z k i.bytes E.ht hi hz hsz rfl hzs E.hk v n xs hown a m cap ys hl hcell h1 (Nat.le_trans hn E.hL) (bytes_ok hn hby) hB
   exact ⟨v', w', hr, ho, hg, hn2⟩
theorem qif (E : ElT P t e k L) {w : World} {o : Oper} {a : Act} {K : Act → World → Prop} {Q : Exit → Act → World → Prop} (s x : Operand)
 (ho : o.op = .call { callee := .builtin .append, args := #[s, x], argTypes := #[t, t] }) (B : Nat) (v y : Value) (n m : Nat) (xs ys : List Value) (hs : a.eval s = v) (hxe : a.eval x = y)
 (hown : w.ownsRow B e k v n xs) (hx : Rd k w y m ys) (h1 : ∀ u ∈ ys, u.oneCell' = true) (hn : n + m ≤ L) (hB : B ≤ w.heap.size)
 (h : ∀ v' w', w'.ownsRow B e k v' (n + m) (xs ++ ys) → w.grownBy w' v.ownBlock → (∀ g, v'.ownBlock = some g → v.ownBlock = some g ∨ w.heap.size ≤ g) → K (a.put o.dst v') w') : o.wp P a w K Q := by
 obtain ⟨v', w', hr, h2, h3, h4⟩ := qhg E w o.type B v y n m xs ys hown hx h1 hn hB
 unfold Oper.wp execOp
 simp only [ho, resolve, invoke, builtin, Sem.run_bind, Sem.run_pure, Result.andThen_ok, List.map_toArray, List.map_cons, List.map_nil, hs, hxe, hr]
 exact h v' w' h2 h3 h4
theorem appE (E : ElT P t e k L) {w : World} {ops : Array Oper} {rest : List Oper} {o : Oper} {a : Act} {Q : Exit → Act → World → Prop} (hgd : o.guard = none) (s x : Operand)
 (ho : o.op = .call { callee := .builtin .append, args := #[s, x], argTypes := #[t, t] }) (B : Nat) (v y : Value) (n m : Nat) (xs ys : List Value) (hs : a.eval s = v) (hxe : a.eval x = y)
 (hown : w.ownsRow B e k v n xs) (hx : Rd k w y m ys) (h1 : ∀ u ∈ ys, u.oneCell' = true) (hn : n + m ≤ L) (hB : B ≤ w.heap.size)
 (h : ∀ v' w', w'.ownsRow B e k v' (n + m) (xs ++ ys) → w.grownBy w' v.ownBlock → (∀ g, v'.ownBlock = some g → v.ownBlock = some g ∨ w.heap.size ≤ g) → wpList P ops Q rest (a.put o.dst v') w') : wpList P ops Q (o :: rest) a w :=
 wpList_plain hgd fun _ hK => qif E s x ho B v y n m xs ys hs hxe hown hx h1 hn hB fun v' w' h2 h3 h4 => hK _ _ (h v' w' h2 h3 h4)
theorem sappE (E : ElT P t e k L) {w : World} {ops : Array Oper} {o : Oper} {a : Act} {K : Act → World → Prop} {Q : Exit → Act → World → Prop} {F : Prop} (hgd : o.guard = none) (s x : Operand)
 (ho : o.op = .call { callee := .builtin .append, args := #[s, x], argTypes := #[t, t] }) (B : Nat) (v y : Value) (n m : Nat) (xs ys : List Value) (hs : a.eval s = v) (hxe : a.eval x = y)
 (hown : w.ownsRow B e k v n xs) (hx : Rd k w y m ys) (h1 : ∀ u ∈ ys, u.oneCell' = true) (hn : n + m ≤ L) (hB : B ≤ w.heap.size)
 (h : ∀ v' w', w'.ownsRow B e k v' (n + m) (xs ++ ys) → w.grownBy w' v.ownBlock → (∀ g, v'.ownBlock = some g → v.ownBlock = some g ∨ w.heap.size ≤ g) → K (a.put o.dst v') w') : if Region.wanted o (yielded ops a.tmps) = true then Oper.wp P o a w K Q else F := by
 have hw : Region.wanted o (yielded ops a.tmps) = true := by simp [Region.wanted, hgd]
 rw [if_pos hw]
 exact qif E s x ho B v y n m xs ys hs hxe hown hx h1 hn hB h
end
theorem rd_new (w : World) (k m : Nat) (cs : List Value) (te : TypeId) (c : Nat) (hl : cs.length = m * k) (hc : m ≤ c) : Rd k (w.alloc (.cells cs.toArray te)) (.slice (some ⟨w.heap.size, 0, none⟩) m c) m cs :=
 ⟨hl, _, c, rfl, hc, .inr ⟨w.heap.size, 0, rfl, fun j u hj => by rw [Nat.zero_add, cell_of_row _ _ _ _ _ _ (heap_alloc_new w _)]; simpa using hj⟩⟩
theorem qcx {w w' : World} {B n k : Nat} {e : TypeId} {v : Value} {xs : List Value} (hown : w.ownsRow B e k v n xs) (hg : w.grownBy w' v.ownBlock) (hB : B ≤ w.heap.size) : Below B w w' :=
 (Below.refl B w).grown hg hB (fun k hk => (hown.lt k hk).1)
def strC (ss : List ByteArray) : List Value := ss.map Value.string
def RdT (w : World) (v : Value) (ss : List ByteArray) : Prop := Rd 1 w v ss.length (strC ss)
theorem RdT.below {a b : World} {v : Value} {l : List ByteArray} (h : RdT a v l) (hb : Below a.heap.size a b) : RdT b v l := Rd.below h hb
theorem RdT.at {w : World} {ad : Option Addr} {cap : Nat} {l : List ByteArray} (h : RdT w (.slice ad l.length cap) l) {i : Nat} {x : ByteArray} (hx : l[i]? = some x) :
 ∃ b off, ad = some ⟨b, off, none⟩ ∧ w.cell? ⟨b, off + i, none⟩ = some (.string x) := by
 obtain ⟨b, off, e, h⟩ := Rd.at h (List.getElem?_eq_some_iff.1 hx).1
 exact ⟨b, off, e, by have := h 0 (.string x) (by simp [strC, hx]); simpa using this⟩
theorem strC_one (ss : List ByteArray) : ∀ u ∈ strC ss, u.oneCell' = true := by
 intro u hu
 obtain ⟨x, _, rfl⟩ := List.mem_map.1 hu
 rfl
end
section
open Go.RowKit
section
variable {P : Program}
theorem qcy {fn : Func} {p u : Tmp} {ty : TypeId} (h : fn.results = #[.cell p ty, .tmp u]) (tmps : Array Value) (w : World) (g : Nat) (t : TypeId) (cs : Array Value) (fr : Nat × Nat) (d : TypeDesc)
 (hp : tmps.getD p undef = .pointer (some ⟨g, 0, none⟩)) (hg : w.heap[g]? = some (.cells cs t fr))
 (hu : P.underlying ty = some d) (hd : (match d with | .struct _ | .array _ _ => true | _ => false) = true) (hi : (P.info? ty).map (·.size) = some cs.size) :
 (results fn tmps).run P w = .ok (.tuple #[.agg cs, tmps.getD u undef]) w := by
 rw [results_cell_tmp h, hp]
 simp [asAddr, run_loadVar_row w g t ty cs fr d hg hu hd hi, Result.andThen]
theorem qcz {fn : Func} {p q u : Tmp} {ty ty' : TypeId} (h : fn.results = #[.cell p ty, .cell q ty', .tmp u]) (tmps : Array Value) (w : World) (g g' : Nat) (t t' : TypeId) (cs cs' : Array Value) (fr fr' : Nat × Nat) (d d' : TypeDesc)
 (hp : tmps.getD p undef = .pointer (some ⟨g, 0, none⟩)) (hg : w.heap[g]? = some (.cells cs t fr)) (hu : P.underlying ty = some d) (hd : (match d with | .struct _ | .array _ _ => true | _ => false) = true) (hi : (P.info? ty).map (·.size) = some cs.size)
 (hp' : tmps.getD q undef = .pointer (some ⟨g', 0, none⟩)) (hg' : w.heap[g']? = some (.cells cs' t' fr')) (hu' : P.underlying ty' = some d') (hd' : (match d' with | .struct _ | .array _ _ => true | _ => false) = true) (hi' : (P.info? ty').map (·.size) = some cs'.size) :
 (results fn tmps).run P w = .ok (.tuple #[.agg cs, .agg cs', tmps.getD u undef]) w := by
 have e1 : tmps[p]?.getD undef = .pointer (some ⟨g, 0, none⟩) := by simpa using hp
 have e2 : tmps[q]?.getD undef = .pointer (some ⟨g', 0, none⟩) := by simpa using hp'
 simp [results, h, e1, e2, asAddr, run_loadVar_row w g t ty cs fr d hg hu hd hi, run_loadVar_row w g' t' ty' cs' fr' d' hg' hu' hd' hi']
end
theorem Keeps.ofBelow {a b : World} (h : Below a.heap.size a b) : Keeps (fun _ => False) a b := ⟨h.os, h.tape, h.output, h.size, fun k hk _ => h.block k hk⟩
theorem _root_.Go.RowKit.Below.toKeeps {a b : World} (h : Below a.heap.size a b) : Keeps (fun _ => False) a b := Keeps.ofBelow h
theorem Keeps.toBelow {a b : World} (h : Keeps (fun _ => False) a b) : Below a.heap.size a b := ⟨h.os, h.tape, h.output, h.size, fun k hk => h.block k hk (fun e => e)⟩
theorem Keeps.toFresh {S : Nat → Prop} {a b : World} (h : Keeps S a b) (hS : ∀ k, k < a.heap.size → ¬ S k) : Keeps (fun _ => False) a b := h.mono (fun k hk e => (hS k hk e).elim)
theorem qax {S : Nat → Prop} {w w1 : World} (h : Keeps S w w1) (g : Nat) (cs : Array Value) (hg : g < w.heap.size → S g) : Keeps S w (w1.setRow g cs) :=
 h.trans (S' := fun k => k = g) ⟨rfl, rfl, rfl, by simp, fun k _ hk => setRow_other w1 g k cs hk⟩ (fun k hk e => by subst e; exact hg hk)
theorem qkk {w w' : World} {base n k g : Nat} {e t : TypeId} {v : Value} {xs : List Value} {c : Array Value} {fr : Nat × Nat} (hg : w.grownBy w' v.ownBlock) (hr : w.ownsRow base e k v n xs) (hb : w.heap[g]? = some (.cells c t fr)) (ht : e ≠ t) : w'.heap[g]? = some (.cells c t fr) :=
 (hg.block g (Array.getElem?_eq_some_iff.1 hb).1 (fun e' => by
   obtain ⟨cur, hc⟩ := qak hr e'.symm
   exact qaf hc hb ht rfl)).trans hb
theorem qfg {a b : World} {g : Nat} {o : Obj} (h : Below a.heap.size a b) (hg : a.heap[g]? = some o) : b.heap[g]? = some o := (h.block g (Array.getElem?_eq_some_iff.1 hg).1).trans hg
theorem heap_alloc {a : World} {g : Nat} {o : Obj} (p : Obj) (hg : a.heap[g]? = some o) : (a.alloc p).heap[g]? = some o := (Below.heap_alloc a p g (Array.getElem?_eq_some_iff.1 hg).1).trans hg
theorem qan {a : World} {g : Nat} {o : Obj} (hg : a.heap[g]? = some o) : g < a.heap.size := (Array.getElem?_eq_some_iff.1 hg).1
theorem infoI : (Tryz.prog.info? 3).map (fun i => (i.zero, i.size, i.bytes)) = some (some (.int .i64 0), 1, 8) := by kernel_rfl
theorem infoMs : (Tryz.prog.info? 22).map (fun i => (i.zero, i.size, i.bytes)) = some (some (.slice none 0 0), 1, 24) := by kernel_rfl
theorem infoLs : (Tryz.prog.info? 95).map (fun i => (i.zero, i.size, i.bytes)) = some (some (.slice none 0 0), 1, 24) := by kernel_rfl
theorem infoIs : (Tryz.prog.info? 125).map (fun i => (i.zero, i.size, i.bytes)) = some (some (.slice none 0 0), 1, 24) := by kernel_rfl
theorem infoRc : (Tryz.prog.info? 127).map (fun i => (i.zero, i.size, i.bytes)) = some (some (.agg #[.slice none 0 0, .slice none 0 0]), 2, 48) := by kernel_rfl
theorem infoEn : (Tryz.prog.info? 229).map (fun i => (i.zero, i.size, i.bytes)) = some (some (.agg #[.string { data := #[] }, .string { data := #[] }, .slice none 0 0]), 3, 56) := by kernel_rfl
theorem elI : ElT Tryz.prog 125 3 1 17592186044416 := ⟨Tryz.underlying125, by obtain ⟨i, h1, h2, h3, h4⟩ := info_parts infoI; exact ⟨i, _, h1, h2, h3, by rw [h4]; decide, rfl⟩, by decide, by decide⟩
theorem elMs : ElT Tryz.prog 165 22 1 5864062014805 := ⟨Tryz.underlying165, by obtain ⟨i, h1, h2, h3, h4⟩ := info_parts infoMs; exact ⟨i, _, h1, h2, h3, by rw [h4]; decide, rfl⟩, by decide, by decide⟩
theorem elLs : ElT Tryz.prog 124 95 1 5864062014805 := ⟨Tryz.underlying124, by obtain ⟨i, h1, h2, h3, h4⟩ := info_parts infoLs; exact ⟨i, _, h1, h2, h3, by rw [h4]; decide, rfl⟩, by decide, by decide⟩
theorem elIs : ElT Tryz.prog 164 125 1 5864062014805 := ⟨Tryz.underlying164, by obtain ⟨i, h1, h2, h3, h4⟩ := info_parts infoIs; exact ⟨i, _, h1, h2, h3, by rw [h4]; decide, rfl⟩, by decide, by decide⟩
theorem elRc : ElT Tryz.prog 123 127 2 2932031007402 := ⟨Tryz.underlying123, by obtain ⟨i, h1, h2, h3, h4⟩ := info_parts infoRc; exact ⟨i, _, h1, h2, h3, by rw [h4]; decide, rfl⟩, by decide, by decide⟩
theorem elEn : ElT Tryz.prog 138 229 3 2513169434916 := ⟨Tryz.underlying138, by obtain ⟨i, h1, h2, h3, h4⟩ := info_parts infoEn; exact ⟨i, _, h1, h2, h3, by rw [h4]; decide, rfl⟩, by decide, by decide⟩
end
section
set_option maxHeartbeats 1000000
set_option maxRecDepth 100000
open Go.RowKit
def crcTab (i : Nat) : Nat := [0x00000000, 0x1db71064, 0x3b6e20c8, 0x26d930ac, 0x76dc4190, 0x6b6b51f4, 0x4db26158, 0x5005713c, 0xedb88320, 0xf00f9344, 0xd6d6a3e8, 0xcb61b38c, 0x9b64c2b0, 0x86d3d2d4, 0xa00ae278, 0xbdbdf21c].getD i 0
def qix (s : Nat) : Nat := crcTab (s % 16) ^^^ (s / 16)
def crcStep (s c : Nat) : Nat := qix (qix (s ^^^ c))
def qde (s : Nat) (l : List Nat) : Nat := l.foldl crcStep s
def crcO (l : List Nat) : Nat := qde 4294967295 l ^^^ 4294967295
theorem qiy (i : Nat) : crcTab i < 4294967296 := by
 by_cases h : i < 16
 · have : ∀ k : Fin 16, crcTab k.val < 4294967296 := by decide
   exact this ⟨i, h⟩
 · unfold crcTab; simp [List.getD, show 16 ≤ i by omega]
theorem xor32 {a b : Nat} (ha : a < 4294967296) (hb : b < 4294967296) : a ^^^ b < 4294967296 := Nat.xor_lt_two_pow (n := 32) ha hb
theorem qgx {s : Nat} (h : s < 4294967296) : qix s < 4294967296 := xor32 (qiy _) (by omega)
theorem crcStep_lt {s c : Nat} (h : s < 4294967296) (hc : c < 256) : crcStep s c < 4294967296 := qgx (qgx (xor32 h (by omega)))
theorem qgy (l : List Nat) (hb : ∀ c ∈ l, c < 256) : ∀ s, s < 4294967296 → qde s l < 4294967296 := by
 induction l with
 | nil => intro s h; exact h
 | cons c r ih => intro s h; exact ih (fun x hx => hb x (by simp [hx])) _ (crcStep_lt h (hb c (by simp)))
theorem crcO_lt (l : List Nat) (hb : ∀ c ∈ l, c < 256) : crcO l < 4294967296 := xor32 (qgy l hb _ (by decide)) (by decide)
theorem qdj (a b : Nat) (ha : a < 4294967296) (hb : b < 4294967296) : bits .xor .u32 (a : Int) (b : Int) = ((a ^^^ b : Nat) : Int) := by
 have hx : a ^^^ b < 2 ^ 32 := Nat.xor_lt_two_pow (by omega) (by omega)
 have h1 : (BitVec.ofInt 32 (a : Int)).toNat = a := by
  rw [BitVec.ofInt_natCast, BitVec.toNat_ofNat]; exact Nat.mod_eq_of_lt (by omega)
 have h2 : (BitVec.ofInt 32 (b : Int)).toNat = b := by
  rw [BitVec.ofInt_natCast, BitVec.toNat_ofNat]; exact Nat.mod_eq_of_lt (by omega)
 show IntKind.u32.wrap ((BitVec.ofInt 32 (a : Int) ^^^ BitVec.ofInt 32 (b : Int)).toNat : Int) = _
 rw [BitVec.toNat_xor, h1, h2]
 simp [IntKind.wrap, IntKind.bits, IntKind.signed]
 omega
theorem qiz (a : Nat) (ha : a < 4294967296) : bits .and .u32 (a : Int) 15 = ((a % 16 : Nat) : Int) := by
 have h1 : (BitVec.ofInt 32 (a : Int)).toNat = a := by
  rw [BitVec.ofInt_natCast, BitVec.toNat_ofNat]; exact Nat.mod_eq_of_lt (by omega)
 show IntKind.u32.wrap ((BitVec.ofInt 32 (a : Int) &&& BitVec.ofInt 32 15).toNat : Int) = _
 rw [BitVec.toNat_and, h1, show (BitVec.ofInt 32 15).toNat = 2 ^ 4 - 1 by decide, Nat.and_two_pow_sub_one_eq_mod]
 simp [IntKind.wrap, IntKind.bits, IntKind.signed]
 omega
def TabC (w : World) : Prop := ∀ j, j < 16 → w.cell? ⟨1, j, none⟩ = some (.int .u32 ((crcTab j : Nat) : Int))
theorem TabC.keeps {S : Nat → Prop} {a b : World} (h : TabC a) (k : Keeps S a b) (hS : ¬ S 1) : TabC b := fun j hj => k.cell (h j hj) hS
theorem TabC.pos {a : World} (h : TabC a) : 1 < a.heap.size := World.block_lt_of_cell? a _ (h 0 (by decide))
theorem qja {w : World} {ad : Option Addr} {n cap : Nat} {bs : List Nat} (h : Holds w (.slice ad n cap) (u8s bs)) {j c : Nat} (hx : bs[j]? = some c) : ∃ b off, ad = some ⟨b, off, none⟩ ∧ w.cell? ⟨b, off + j, none⟩ = some (.int .u8 (c : Int)) := by
 obtain ⟨a', c', hv, hc, h | ⟨b, off, rfl, hcell⟩⟩ := h
 · have : bs = [] := by simpa [u8s] using h
   subst this; simp at hx
 · simp only [Value.slice.injEq] at hv
   exact ⟨b, off, hv.1, hcell j _ (by simp [u8s, hx])⟩
theorem crcFold_snoc (s : Nat) (l : List Nat) (j c : Nat) (h : l[j]? = some c) : qde s (l.take (j + 1)) = crcStep (qde s (l.take j)) c := by
 unfold qde; rw [List.take_add_one, h, List.foldl_append]; rfl
theorem crcu_any (s : Nat) (v : Value) (l : List Nat) (w : World) (hs : s < 4294967296) (h : Holds w v (u8s l)) (hb : ∀ c ∈ l, c < 256) (hl : l.length ≤ 140737488351232) (hT : TabC w) :
 Calls Tryz.prog 179 #[.int .u32 (s : Int), v] w fun e w' => e = .returned (.int .u32 ((qde s l : Nat) : Int)) ∧ w' = w := by
 obtain ⟨ad, cp, hv, _, _⟩ := id h
 rw [qaa] at hv
 subst hv
 have HH := Hj h; have HB := Hj hb; have HT := Hj hT; have HS := Hj hs
 clear h hb hT hs
 go_enter Tryz.func179, Tryz.ntmps179
 go_wp2
 go_loopw [0, 9] (fun c0 c wr => ∃ (j t : Nat), c = .int .i64 (j : Int) ∧ c0 = .int .u32 (t : Int) ∧ j ≤ l.length ∧ Hid (t = qde s (l.take j)) ∧ Hid (wr = w)) (fun _ c _ => l.length - (intOf c).toNat)
 case atStart => exact ⟨0, s, rfl, rfl, Nat.zero_le _, Hj rfl, Hj rfl⟩
 case round =>
  obtain ⟨j, t, rfl, rfl, hjl, HTT, HW⟩ := hrel
  by_cases hlt : j < l.length
  · have hlti : (j : Int) < (l.length : Int) := by omega
    obtain ⟨c, hc⟩ : ∃ c, l[j]? = some c := ⟨l[j], by simp⟩
    have hc256 := HB.out c (List.mem_of_getElem? hc)
    obtain ⟨b, off, rfl, hcell⟩ := qja HH.out hc
    rw [← HW.out] at hcell
    have ht : t < 4294967296 := by rw [HTT.out]; exact qgy _ (fun x hx => HB.out x (List.mem_of_mem_take hx)) s HS.out
    obtain ⟨s1, hs1⟩ : ∃ s1, s1 = t ^^^ c := ⟨_, rfl⟩
    obtain ⟨s2, hs2⟩ : ∃ s2, s2 = qix s1 := ⟨_, rfl⟩
    obtain ⟨s3, hs3⟩ : ∃ s3, s3 = qix s2 := ⟨_, rfl⟩
    have l1 : s1 < 4294967296 := by rw [hs1]; exact xor32 ht (by omega)
    have l2 : s2 < 4294967296 := by rw [hs2]; exact qgx l1
    have hN : s3 = qde s (l.take (j + 1)) := by rw [crcFold_snoc s l j c hc, ← HTT.out, hs3, hs2, hs1]; rfl
    obtain ⟨m1, hm1⟩ : ∃ m1, m1 = s1 % 16 := ⟨_, rfl⟩
    obtain ⟨m2, hm2⟩ : ∃ m2, m2 = s2 % 16 := ⟨_, rfl⟩
    obtain ⟨d1, hd1⟩ : ∃ d1, d1 = s1 / 16 := ⟨_, rfl⟩
    obtain ⟨d2, hd2⟩ : ∃ d2, d2 = s2 / 16 := ⟨_, rfl⟩
    obtain ⟨t1, ht1⟩ : ∃ t1, t1 = crcTab m1 := ⟨_, rfl⟩
    obtain ⟨t2, ht2⟩ : ∃ t2, t2 = crcTab m2 := ⟨_, rfl⟩
    have x1 : bits .xor .u32 (t : Int) (c : Int) = (s1 : Int) := by rw [qdj _ _ ht (by omega), hs1]
    have a1 : bits .and .u32 (s1 : Int) 15 = (m1 : Int) := by rw [qiz _ l1, hm1]
    have a2 : bits .and .u32 (s2 : Int) 15 = (m2 : Int) := by rw [qiz _ l2, hm2]
    have q1 : (s1 : Int) / 16 = (d1 : Int) := by omega
    have q2 : (s2 : Int) / 16 = (d2 : Int) := by omega
    have g1 := HT.out m1 (by omega); have g2 := HT.out m2 (by omega)
    rw [← ht1, ← HW.out] at g1
    rw [← ht2, ← HW.out] at g2
    have y1 : bits .xor .u32 (t1 : Int) (d1 : Int) = (s2 : Int) := by rw [qdj _ _ (by rw [ht1]; exact qiy _) (by omega), hs2, ht1, hd1, hm1]; rfl
    have y2 : bits .xor .u32 (t2 : Int) (d2 : Int) = (s3 : Int) := by rw [qdj _ _ (by rw [ht2]; exact qiy _) (by omega), hs3, ht2, hd2, hm2]; rfl
    have b1 : (m1 : Int) < 16 := by omega
    have b2 : (m2 : Int) < 16 := by omega
    have HN := Hj hN
    clear hc hs1 hs2 hs3 hN hm1 hm2 hd1 hd2 ht1 ht2
    go_wp2
    exact ⟨⟨j + 1, s3, by simp, rfl, by omega, HN, HW⟩, by simp [intOf]; omega⟩
  · obtain rfl : j = l.length := by omega
    go_wp2
    go_ret
    have ht := HTT.out
    rw [List.take_length] at ht
    exact ⟨by rw [← ht]; rfl, HW.out⟩
theorem crcs_any (v : Value) (l : List Nat) (w : World) (h : Holds w v (u8s l)) (hb : ∀ c ∈ l, c < 256) (hl : l.length ≤ 140737488351232) (hT : TabC w) :
 Calls Tryz.prog 131 #[v] w fun e w' => e = .returned (.int .u32 ((crcO l : Nat) : Int)) ∧ w' = w := by
 have HC := Hj (crcu_any 4294967295 v l w (by decide) h hb hl hT)
 have hlt := qgy l hb 4294967295 (by decide)
 have hx : bits .xor .u32 IntKind.u32.max ((qde 4294967295 l : Nat) : Int) = ((crcO l : Nat) : Int) := by
  have h1 := qdj 4294967295 (qde 4294967295 l) (by decide) hlt
  rw [Nat.xor_comm] at h1
  exact h1
 generalize qde 4294967295 l = s at *
 generalize crcO l = r at *
 clear h hb hT
 go_enter Tryz.func131, Tryz.ntmps131
 go_wp2_with (go_at_call 179; refine HC.out.mono ?_; rintro e w' ⟨rfl, rfl⟩)
 go_ret
 exact ⟨rfl, rfl⟩
end
section
open Go.RowKit
section
variable {P : Program}
theorem appEIn {F : Fence} {n0 : Nat} {t e : TypeId} {k L : Nat} (E : ElT P t e k L) {w : World} {ops : Array Oper} {rest : List Oper} {o : Oper} {a : Act} {Q : Exit → Act → World → Prop} (hgd : o.guard = none) (s x : Operand)
 (ho : o.op = .call { callee := .builtin .append, args := #[s, x], argTypes := #[t, t] }) (B : Nat) (v y : Value) (n m : Nat) (xs ys : List Value) (hs : a.eval s = v) (hxe : a.eval x = y)
 (hown : w.ownsRow B e k v n xs) (hx : Rd k w y m ys) (h1 : ∀ u ∈ ys, u.oneCell' = true) (hn : n + m ≤ L) (hB : B ≤ w.heap.size)
 (h : ∀ v' w', w'.ownsRow B e k v' (n + m) (xs ++ ys) → w.grownBy w' v.ownBlock → (∀ g, v'.ownBlock = some g → v.ownBlock = some g ∨ w.heap.size ≤ g) → wpListIn F n0 P ops Q rest (a.put o.dst v') w') : wpListIn F n0 P ops Q (o :: rest) a w := by
 refine wpListIn_plain hgd fun K hK => ?_
 obtain ⟨v', w', hr, h2, h3, h4⟩ := qhg E w o.type B v y n m xs ys hown hx h1 hn hB
 unfold Oper.wpIn
 refine ⟨by simp [Oper.about, ho, resolve, Target.leads, Sem.run_pure], ?_⟩
 rw [Oper.semAt_plain F _ _ (by rw [ho]; intro c hc'; cases hc')]
 simp [execOp, ho, resolve, invoke, builtin, hs, hxe, hr, Result.andThen]
 exact hK _ _ (h v' w' h2 h3 h4)
end
end
section
set_option maxHeartbeats 2000000
set_option maxRecDepth 100000
open Go.RowKit
def leB (s k : Nat) : Nat := s / 2 ^ (8 * k) % 256
def le4 (s : Nat) : List Nat := [leB s 0, leB s 1, leB s 2, leB s 3]
theorem le4_lt (s : Nat) : ∀ c ∈ le4 s, c < 256 := by
 intro c hc
 simp only [le4, List.mem_cons, List.not_mem_nil, or_false] at hc
 rcases hc with rfl | rfl | rfl | rfl <;> (unfold leB; omega)
def crcApp (l : List Nat) : List Nat := l ++ le4 (crcO l)
theorem qau (l : List Nat) : (crcApp l).length = l.length + 4 := by simp [crcApp, le4]
theorem crca_any (v : Value) (l : List Nat) (w : World) (h : Holds w v (u8s l)) (hb : ∀ c ∈ l, c < 256) (hl : l.length ≤ 1000000000000) (hT : TabC w) :
 Calls Tryz.prog 71 #[v] w fun e w' => ∃ v', e = .returned v' ∧ w'.ownsRow w.heap.size 5 1 v' (crcApp l).length (u8s (crcApp l)) ∧ Keeps (fun _ => False) w w' := by
 obtain ⟨i0, hi, hz0, hz1, hz2⟩ := info_parts infoU8
 obtain ⟨ad, cp, hv, _, _⟩ := id h
 rw [qaa] at hv
 subst hv
 have HS : Hid (∀ wq, Keeps (fun _ => False) w wq → Calls Tryz.prog 131 #[.slice ad l.length cp] wq fun e w' => e = .returned (.int .u32 ((crcO l : Nat) : Int)) ∧ w' = wq) := Hj (fun wq hk => crcs_any _ l wq (h.keeps hk (fun _ _ e => e)) hb (by omega) (hT.keeps hk (fun e => e)))
 have HH := Hj (h.keeps ((Keeps.refl (fun _ => False) w).alloc (.cells #[] 5)) (fun _ _ e => e))
 have HB := Hj hb
 clear h hb hT
 have hs32 := crcO_lt l HB.out
 have HC : Hid (crcApp l = l ++ le4 (crcO l)) := Hj rfl
 generalize crcO l = s at *
 obtain ⟨b0, hb0⟩ : ∃ b, b = leB s 0 := ⟨_, rfl⟩
 obtain ⟨b1, hb1⟩ : ∃ b, b = leB s 1 := ⟨_, rfl⟩
 obtain ⟨b2, hb2⟩ : ∃ b, b = leB s 2 := ⟨_, rfl⟩
 obtain ⟨b3, hb3⟩ : ∃ b, b = leB s 3 := ⟨_, rfl⟩
 have HB4 : Hid (le4 s = [b0, b1, b2, b3]) := Hj (by unfold le4; rw [hb0, hb1, hb2, hb3])
 have e0 : IntKind.u8.wrap (s : Int) = (b0 : Int) := by rw [IntKind.wrap_u8, hb0]; unfold leB; simp
 have e1 : IntKind.u8.wrap ((s : Int) / 256) = (b1 : Int) := by rw [IntKind.wrap_u8, hb1]; unfold leB; simp
 have e2 : IntKind.u8.wrap ((s : Int) / 65536) = (b2 : Int) := by rw [IntKind.wrap_u8, hb2]; unfold leB; simp
 have e3 : IntKind.u8.wrap ((s : Int) / 16777216) = (b3 : Int) := by rw [IntKind.wrap_u8, hb3]; unfold leB; simp
 clear hb0 hb1 hb2 hb3
 go_enter Tryz.func71, Tryz.ntmps71
 go_wp2_with (first
  | (at_builtin; refine qba _ rfl _ _ 29 rfl w.heap.size 5 i0 (.int .u8 0) 1 Tryz.underlying29 hi hz0 hz1 hz2 rfl _ _ [] (u8s l) rfl rfl (World.ownsRow_lit w #[] 0 (Nat.le_refl _) (by decide) rfl) HH.out (qdv _) (by rw [qaa]; simp; unfold maxLen; omega) (by rw [qaa]; simp; omega) (by simp) ?_; intro v1 w1 hr1; have HK1 : Hid (Keeps (fun _ => False) w w1) := Hj (((Keeps.refl (fun _ => False) w).alloc _).trans hr1.keeps (fun k hk e => by have e' : some w.heap.size = some k := e; simp only [Option.some.injEq] at e'; omega)); have HR1 := Hj hr1.row; clear hr1)
  | (go_at_call 131; refine (HS.out _ HK1.out).mono ?_; rintro e w' ⟨rfl, rfl⟩))
 go_loopw [3, 11] (fun c3 c wr => ∃ (i : Nat), c = .int .i64 (i : Int) ∧ i ≤ 4 ∧ Hid (wr.ownsRow w.heap.size 5 1 c3 (l.length + i) (u8s (l ++ [b0, b1, b2, b3].take i))) ∧ Hid (Keeps (fun _ => False) w wr)) (fun _ c _ => 4 - (intOf c).toNat)
 case atStart => exact ⟨0, rfl, by omega, Hj (by have := HR1.out; simpa [u8s] using this), HK1⟩
 case round =>
  clear HK1 HR1
  obtain ⟨i, rfl, hi4, HROW, HK⟩ := hrel
  rcases (by omega : i = 0 ∨ i = 1 ∨ i = 2 ∨ i = 3 ∨ i = 4) with rfl | rfl | rfl | rfl | rfl
  · go_wp2_with (at_builtin; refine qba _ rfl _ _ 29 rfl w.heap.size 5 i0 (.int .u8 0) 1 Tryz.underlying29 hi hz0 hz1 hz2 rfl _ _ (u8s (l ++ [])) (u8s [b0]) rfl rfl (by rw [qaa, List.length_append]; exact HROW.out.alloc _) (qgb wr [b0]) (qdv _) (by rw [qaa, qaa, List.length_append]; simp; unfold maxLen; omega) (by rw [qaa, qaa, List.length_append]; simp; omega) (by have := HK.out.size; simp; omega) ?_; intro v2 w2 hr2)
    exact ⟨⟨1, rfl, by omega, Hj (by have := hr2.row; simpa [u8s, HB4.out] using this), Hj ((HK.out.alloc _).trans hr2.keeps (fun k hk e => by have := (HROW.out.lt k e).1; omega))⟩, by simp [intOf]⟩
  · go_wp2_with (at_builtin; refine qba _ rfl _ _ 29 rfl w.heap.size 5 i0 (.int .u8 0) 1 Tryz.underlying29 hi hz0 hz1 hz2 rfl _ _ (u8s (l ++ [b0])) (u8s [b1]) rfl rfl (by rw [qaa, List.length_append]; exact HROW.out.alloc _) (qgb wr [b1]) (qdv _) (by rw [qaa, qaa, List.length_append]; simp; unfold maxLen; omega) (by rw [qaa, qaa, List.length_append]; simp; omega) (by have := HK.out.size; simp; omega) ?_; intro v2 w2 hr2)
    exact ⟨⟨2, rfl, by omega, Hj (by have := hr2.row; simpa [u8s, HB4.out] using this), Hj ((HK.out.alloc _).trans hr2.keeps (fun k hk e => by have := (HROW.out.lt k e).1; omega))⟩, by simp [intOf]⟩
  · go_wp2_with (at_builtin; refine qba _ rfl _ _ 29 rfl w.heap.size 5 i0 (.int .u8 0) 1 Tryz.underlying29 hi hz0 hz1 hz2 rfl _ _ (u8s (l ++ [b0, b1])) (u8s [b2]) rfl rfl (by rw [qaa, List.length_append]; exact HROW.out.alloc _) (qgb wr [b2]) (qdv _) (by rw [qaa, qaa, List.length_append]; simp; unfold maxLen; omega) (by rw [qaa, qaa, List.length_append]; simp; omega) (by have := HK.out.size; simp; omega) ?_; intro v2 w2 hr2)
    exact ⟨⟨3, rfl, by omega, Hj (by have := hr2.row; simpa [u8s, HB4.out] using this), Hj ((HK.out.alloc _).trans hr2.keeps (fun k hk e => by have := (HROW.out.lt k e).1; omega))⟩, by simp [intOf]⟩
  · go_wp2_with (at_builtin; refine qba _ rfl _ _ 29 rfl w.heap.size 5 i0 (.int .u8 0) 1 Tryz.underlying29 hi hz0 hz1 hz2 rfl _ _ (u8s (l ++ [b0, b1, b2])) (u8s [b3]) rfl rfl (by rw [qaa, List.length_append]; exact HROW.out.alloc _) (qgb wr [b3]) (qdv _) (by rw [qaa, qaa, List.length_append]; simp; unfold maxLen; omega) (by rw [qaa, qaa, List.length_append]; simp; omega) (by have := HK.out.size; simp; omega) ?_; intro v2 w2 hr2)
    exact ⟨⟨4, rfl, by omega, Hj (by have := hr2.row; simpa [u8s, HB4.out] using this), Hj ((HK.out.alloc _).trans hr2.keeps (fun k hk e => by have := (HROW.out.lt k e).1; omega))⟩, by simp [intOf]⟩
  · go_wp2
    go_ret
    exact ⟨_, rfl, by rw [HC.out, HB4.out, List.length_append]; exact HROW.out, HK.out⟩
end
section
set_option maxHeartbeats 2000000
set_option maxRecDepth 100000
open Go.RowKit
def chkO (l : List Nat) : Bool := decide (4 ≤ l.length ∧ l.drop (l.length - 4) = le4 (crcO (l.take (l.length - 4))))
theorem chkO_app (l : List Nat) : chkO (crcApp l) = true := by
 unfold chkO
 rw [qau, Nat.add_sub_cancel]
 unfold crcApp
 rw [List.drop_left, List.take_left]
 simp
theorem four_eq {r : List Nat} (h : r.length = 4) {a b c d : Nat} (h0 : r[0]? = some a) (h1 : r[1]? = some b) (h2 : r[2]? = some c) (h3 : r[3]? = some d) : r = [a, b, c, d] := by
 match r, h with
 | [x, y, z, t], _ => simp at h0 h1 h2 h3; rw [h0, h1, h2, h3]
theorem crck_any (v : Value) (l : List Nat) (w : World) (h : Holds w v (u8s l)) (hb : ∀ c ∈ l, c < 256) (hl : l.length ≤ 140737488351232) (hT : TabC w) :
 Calls Tryz.prog 92 #[v] w fun e w' => e = .returned (.bool (chkO l)) ∧ w' = w := by
 obtain ⟨i0, hi, hz0, hz1, hz2⟩ := info_parts infoU8
 obtain ⟨ad, cp, hv, _, _⟩ := id h
 rw [qaa] at hv
 subst hv
 by_cases h4 : l.length < 4
 · have hm : (l.length : Int) - 4 < 0 := by omega
   have HE : Hid (chkO l = false) := Hj (by unfold chkO; simp; omega)
   clear h hb hT
   go_enter Tryz.func92, Tryz.ntmps92
   go_wp2
   go_ret
   exact ⟨by rw [HE.out]; rfl, rfl⟩
 · obtain ⟨m, hm⟩ : ∃ m, l.length = m + 4 := ⟨l.length - 4, by omega⟩
   have em : (l.length : Int) - 4 = (m : Int) := by omega
   have hm0 : ¬ (m : Int) < 0 := by omega
   obtain ⟨a1, c1, hs1, hh1⟩ := run_to_all (P := Tryz.prog) w 29 5 Tryz.underlying29 hi hz1 h .i64 m (by rw [qaa]; omega)
   obtain ⟨a2, c2, hs2, hh2, _⟩ := qff (P := Tryz.prog) (w := w) 29 5 Tryz.underlying29 hi hz1 h .i64 m (by rw [qaa]; omega)
   rw [show (u8s l).take m = u8s (l.take m) by simp [u8s]] at hh1
   rw [show (u8s l).drop m = u8s (l.drop m) by simp [u8s]] at hh2
   rw [qaa, show l.length - m = 4 by omega] at hs2 hh2
   have hs1' := hs1 w
   have hbt : ∀ c ∈ l.take m, c < 256 := fun c hc => hb c (List.mem_of_mem_take hc)
   have HS := Hj (crcs_any (.slice a1 m c1) (l.take m) w hh1 hbt (by rw [List.length_take]; omega) hT)
   have HK : Hid (chkO l = decide (l.drop m = le4 (crcO (l.take m)))) := Hj (by
    unfold chkO
    rw [show l.length - 4 = m by omega]
    simp only [show 4 ≤ l.length by omega, true_and])
   have hdl : (l.drop m).length = 4 := by rw [List.length_drop]; omega
   generalize l.drop m = r at *
   generalize crcO (l.take m) = s at *
   have hx : ∀ k, k < 4 → ∃ c, r[k]? = some c := fun k hk => ⟨r[k]'(by omega), by simp⟩
   obtain ⟨x0, hx0⟩ := hx 0 (by omega)
   obtain ⟨x1, hx1⟩ := hx 1 (by omega)
   obtain ⟨x2, hx2⟩ := hx 2 (by omega)
   obtain ⟨x3, hx3⟩ := hx 3 (by omega)
   have hr := four_eq hdl hx0 hx1 hx2 hx3
   obtain ⟨b, off, rfl, g0⟩ := qja hh2 hx0
   obtain ⟨b', off', e', g1⟩ := qja hh2 hx1
   simp only [Option.some.injEq, Addr.mk.injEq, and_true] at e'
   obtain ⟨rfl, rfl⟩ := e'
   obtain ⟨b', off', e', g2⟩ := qja hh2 hx2
   simp only [Option.some.injEq, Addr.mk.injEq, and_true] at e'
   obtain ⟨rfl, rfl⟩ := e'
   obtain ⟨b', off', e', g3⟩ := qja hh2 hx3
   simp only [Option.some.injEq, Addr.mk.injEq, and_true] at e'
   obtain ⟨rfl, rfl⟩ := e'
   obtain ⟨b0, hb0⟩ : ∃ b, b = leB s 0 := ⟨_, rfl⟩
   obtain ⟨b1, hb1⟩ : ∃ b, b = leB s 1 := ⟨_, rfl⟩
   obtain ⟨b2, hb2⟩ : ∃ b, b = leB s 2 := ⟨_, rfl⟩
   obtain ⟨b3, hb3⟩ : ∃ b, b = leB s 3 := ⟨_, rfl⟩
   have HKK : Hid (chkO l = decide (x0 = b0 ∧ x1 = b1 ∧ x2 = b2 ∧ x3 = b3)) := Hj (by
    rw [HK.out, hr]; unfold le4; rw [← hb0, ← hb1, ← hb2, ← hb3]; simp)
   have e0 : IntKind.u8.wrap (s : Int) = (b0 : Int) := by rw [IntKind.wrap_u8, hb0]; unfold leB; simp
   have e1 : IntKind.u8.wrap ((s : Int) / 256) = (b1 : Int) := by rw [IntKind.wrap_u8, hb1]; unfold leB; simp
   have e2 : IntKind.u8.wrap ((s : Int) / 65536) = (b2 : Int) := by rw [IntKind.wrap_u8, hb2]; unfold leB; simp
   have e3 : IntKind.u8.wrap ((s : Int) / 16777216) = (b3 : Int) := by rw [IntKind.wrap_u8, hb3]; unfold leB; simp
   have hmb : (m : Int) ≤ 140737488351232 := by omega
   clear h hb hT hs1 hh1 hh2 hbt HK hdl hx hx0 hx1 hx2 hx3 hr hb0 hb1 hb2 hb3 h4 hm
   go_enter Tryz.func92, Tryz.ntmps92
   go_wp2_with (go_at_call 131; refine HS.out.mono ?_; rintro e w' ⟨rfl, rfl⟩)
   rw [Nat.add_zero] at g0
   have G0 := Hj g0; have G1 := Hj g1; have G2 := Hj g2; have G3 := Hj g3
   clear g0 g1 g2 g3
   go_loopw [20] (fun c wr => ∃ i : Nat, c = .int .i64 (i : Int) ∧ i ≤ 4 ∧ (0 < i → x0 = b0) ∧ (1 < i → x1 = b1) ∧ (2 < i → x2 = b2) ∧ (3 < i → x3 = b3) ∧ Hid (wr = w')) (fun c _ => 4 - (intOf c).toNat)
   case atStart => exact ⟨0, rfl, by omega, by omega, by omega, by omega, by omega, Hj rfl⟩
   case round =>
    obtain ⟨i, rfl, hi4, hk0, hk1, hk2, hk3, HW⟩ := hrel
    have g0 := G0.out; have g1 := G1.out; have g2 := G2.out; have g3 := G3.out
    rw [← HW.out] at g0 g1 g2 g3
    rcases (by omega : i = 0 ∨ i = 1 ∨ i = 2 ∨ i = 3 ∨ i = 4) with rfl | rfl | rfl | rfl | rfl
    · by_cases hx : x0 = b0
      · have hxi : (x0 : Int) = (b0 : Int) := by rw [hx]
        have HX := Hj hx
        clear hx
        go_wp2
        exact ⟨⟨1, rfl, by omega, fun _ => HX.out, by omega, by omega, by omega, HW⟩, by simp [intOf]⟩
      · have hxi : ¬ (x0 : Int) = (b0 : Int) := by omega
        have HE : Hid (chkO l = false) := Hj (by rw [HKK.out]; simp [hx])
        clear hx
        go_wp2
        go_ret
        exact ⟨by rw [HE.out]; rfl, HW.out⟩
    · by_cases hx : x1 = b1
      · have hxi : (x1 : Int) = (b1 : Int) := by rw [hx]
        have HX := Hj hx
        clear hx
        go_wp2
        exact ⟨⟨2, rfl, by omega, fun _ => hk0 (by omega), fun _ => HX.out, by omega, by omega, HW⟩, by simp [intOf]⟩
      · have hxi : ¬ (x1 : Int) = (b1 : Int) := by omega
        have HE : Hid (chkO l = false) := Hj (by rw [HKK.out]; simp [hx])
        clear hx
        go_wp2
        go_ret
        exact ⟨by rw [HE.out]; rfl, HW.out⟩
    · by_cases hx : x2 = b2
      · have hxi : (x2 : Int) = (b2 : Int) := by rw [hx]
        have HX := Hj hx
        clear hx
        go_wp2
        exact ⟨⟨3, rfl, by omega, fun _ => hk0 (by omega), fun _ => hk1 (by omega), fun _ => HX.out, by omega, HW⟩, by simp [intOf]⟩
      · have hxi : ¬ (x2 : Int) = (b2 : Int) := by omega
        have HE : Hid (chkO l = false) := Hj (by rw [HKK.out]; simp [hx])
        clear hx
        go_wp2
        go_ret
        exact ⟨by rw [HE.out]; rfl, HW.out⟩
    · by_cases hx : x3 = b3
      · have hxi : (x3 : Int) = (b3 : Int) := by rw [hx]
        have HX := Hj hx
        clear hx
        go_wp2
        exact ⟨⟨4, rfl, by omega, fun _ => hk0 (by omega), fun _ => hk1 (by omega), fun _ => hk2 (by omega), fun _ => HX.out, HW⟩, by simp [intOf]⟩
      · have hxi : ¬ (x3 : Int) = (b3 : Int) := by omega
        have HE : Hid (chkO l = false) := Hj (by rw [HKK.out]; simp [hx])
        clear hx
        go_wp2
        go_ret
        exact ⟨by rw [HE.out]; rfl, HW.out⟩
    · have HE : Hid (chkO l = true) := Hj (by rw [HKK.out]; simp [hk0 (by omega), hk1 (by omega), hk2 (by omega), hk3 (by omega)])
      clear hk0 hk1 hk2 hk3
      go_wp2
      go_ret
      exact ⟨by rw [HE.out]; rfl, HW.out⟩
end
section
set_option maxHeartbeats 1000000
set_option maxRecDepth 100000
open Go.RowKit
theorem vgo_step (i x c : Nat) (r : List Nat) (h9 : ¬ (i = 9 ∧ 1 < c)) (h0 : ¬ (c = 0 ∧ 0 < i)) (hc : ¬ c < 128) : vgo i x (c :: r) = vgo (i + 1) (x + c % 128 * 2 ^ (7 * i)) r := by
 rw [vgo, if_neg h9, if_neg h0, if_neg hc]
theorem vgo_over (x c : Nat) (r : List Nat) (h : 1 < c) : vgo 9 x (c :: r) = (0, 0, 6) := by rw [vgo, if_pos ⟨rfl, h⟩]
theorem vgo_min (i x : Nat) (r : List Nat) (h0 : 0 < i) : vgo i x (0 :: r) = (0, 0, 5) := by rw [vgo, if_neg (by omega), if_pos ⟨rfl, h0⟩]
theorem vgo_end (i x c : Nat) (r : List Nat) (h9 : ¬ (i = 9 ∧ 1 < c)) (h0 : ¬ (c = 0 ∧ 0 < i)) (hc : c < 128) : vgo i x (c :: r) = (x + c % 128 * 2 ^ (7 * i), i + 1, 0) := by
 rw [vgo, if_neg h9, if_neg h0, if_pos hc]
theorem vgo_acc (x i m : Nat) (c : Nat) (hx : x < 2 ^ (7 * i)) (hm : m = c % 128 * 2 ^ (7 * i)) (hb : x + m ≤ 18446744073709551615) : bits .or .u64 ((x : Nat) : Int) ((m : Nat) : Int) = ((x + m : Nat) : Int) := by
 rw [u64_or_nat _ _ (by omega) (by omega)]
 congr 1
 rw [Nat.or_comm, nat_join (7 * i) m x (by rw [hm]; simp) hx]
 omega
theorem vgo_bound (x i c : Nat) (hx : x < 2 ^ (7 * i)) (hi : i ≤ 9) (hc : i = 9 → c ≤ 1) : x + c % 128 * 2 ^ (7 * i) ≤ 18446744073709551615 ∧ (i < 9 → x + c % 128 * 2 ^ (7 * i) < 2 ^ (7 * (i + 1))) := by
 have h1 : c % 128 * 2 ^ (7 * i) ≤ 127 * 2 ^ (7 * i) := Nat.mul_le_mul_right _ (by omega)
 have h2 : (2 : Nat) ^ (7 * (i + 1)) = 128 * 2 ^ (7 * i) := by rw [show 7 * (i + 1) = 7 * i + 7 by omega, Nat.pow_add]; omega
 rcases Nat.lt_or_ge i 9 with h | h
 · have h3 : (2 : Nat) ^ (7 * (i + 1)) ≤ 2 ^ 63 := Nat.pow_le_pow_right (by decide) (by omega)
   constructor
   · omega
   · intro _; omega
 · obtain rfl : i = 9 := by omega
   have := hc rfl
   have h4 : c % 128 * 2 ^ (7 * 9) ≤ 1 * 2 ^ (7 * 9) := Nat.mul_le_mul_right _ (by omega)
   exact ⟨by omega, fun h => by omega⟩
def vres (at_ : Nat) (r : Nat × Nat × Nat) : Ending := .returned (.tuple #[.int .u64 ((r.1 : Nat) : Int), .int .i64 (((if r.2.2 = 0 then at_ + r.2.1 else 0 : Nat)) : Int), .int .i64 ((r.2.2 : Nat) : Int)])
theorem qgp (v : Value) (l : List Nat) (j : Nat) (w : World) (h : Holds w v (u8s l)) (hb : ∀ c ∈ l, c < 256) (hj : j ≤ l.length) (hl : l.length ≤ 140737488351232) :
 Calls Tryz.prog 132 #[v, .int .i64 j] w fun e w' => e = vres j (vgo 0 0 (l.drop j)) ∧ w = w' := by
 obtain ⟨i0, hi, hz0, hz1, hz2⟩ := info_parts infoU8
 obtain ⟨ad, cap, rfl, hc, hcells⟩ := h
 rw [qaa] at hc
 obtain ⟨a2, cap2, hsl, hh2, _⟩ := qff (P := Tryz.prog) w 29 5 Tryz.underlying29 hi hz1 (⟨ad, cap, rfl, by rw [qaa]; exact hc, hcells⟩ : Holds w (.slice ad (u8s l).length cap) (u8s l)) .i64 j (by rw [qaa]; exact hj)
 rw [qaa] at hsl hh2 ⊢
 have hd : (u8s l).drop j = u8s (l.drop j) := by simp [u8s]
 rw [hd] at hh2
 have hbd : ∀ c ∈ l.drop j, c < 256 := fun c hc => hb c (List.mem_of_mem_drop hc)
 have hll : (l.drop j).length = l.length - j := by simp
 generalize hm : l.drop j = m at *
 rw [← hll] at hsl hh2
 have HH := Hj hh2; have HB := Hj hbd; have HM := Hj hll
 have hj1 : ¬ (l.length : Int) < j := by omega
 clear hcells hd hbd hll hm hb hh2
 go_enter Tryz.func132, Tryz.ntmps132
 go_wp2
 go_loop [7, 22] (fun x c => ∃ k x' : Nat, k ≤ 9 ∧ k ≤ m.length ∧ x' < 2 ^ (7 * k) ∧ c = .int .i64 k ∧ x = .int .u64 (x' : Nat) ∧ vgo k x' (m.drop k) = vgo 0 0 m) (fun _ c => m.length - (intOf c).toNat)
 case atStart => exact ⟨0, 0, by omega, by omega, by omega, rfl, rfl, rfl⟩
 case round =>
  obtain ⟨k, x, hk9, hk, hx, rfl, rfl, hv⟩ := hrel
  by_cases hlt : k < m.length
  · obtain ⟨c, hck⟩ : ∃ c, m[k]? = some c := ⟨m[k], by simp [hlt]⟩
    obtain ⟨b, off, cap3, hv3, hcell⟩ := HH.out.index (j := k) (u := .int .u8 (c : Nat)) (u8s_get hck)
    simp only [Value.slice.injEq] at hv3
    obtain ⟨rfl, _, rfl⟩ := hv3
    have hdk : m.drop k = c :: m.drop (k + 1) := by rw [List.drop_eq_getElem_cons hlt]; congr 1; rw [List.getElem?_eq_getElem hlt] at hck; simpa using hck
    have hc256 : c < 256 := HB.out c (List.mem_of_getElem? hck)
    rw [hdk] at hv
    have HV := Hj hv
    clear hv hdk hck
    by_cases h9 : k = 9 ∧ 1 < c
    · obtain ⟨rfl, h1c⟩ := h9
      rw [vgo_over x c _ h1c] at HV
      have hcg : (1 : Int) < c := by omega
      go_wp2
      go_ret3
      exact ⟨by rw [← HV.out]; rfl, rfl⟩
    · by_cases h0 : c = 0 ∧ 0 < k
      · obtain ⟨rfl, h0k⟩ := h0
        rw [vgo_min k x _ h0k] at HV
        have h0k' : (0 : Int) < k := by omega
        have h9' : ¬ ((k : Int) == 9) = true ∨ ¬ (1 : Int) < 0 := by omega
        clear h9'
        by_cases hk' : k = 9
        · subst hk'
          go_wp2
          go_ret3
          exact ⟨by rw [← HV.out]; rfl, rfl⟩
        · have hkb : ((k : Int) == 9) = false := by simp; omega
          go_wp2
          go_ret3
          exact ⟨by rw [← HV.out]; rfl, rfl⟩
      · obtain ⟨hb1, hb2⟩ := vgo_bound x k c hx hk9 (fun e => by omega)
        obtain ⟨s, hs⟩ : ∃ s, s = c % 128 := ⟨_, rfl⟩
        obtain ⟨z, hz⟩ : ∃ z, z = c % 128 * 2 ^ (7 * k) := ⟨_, rfl⟩
        have hor := vgo_acc x k z c hx hz (by rw [hz]; exact hb1)
        have hs1 : (c : Int) % 128 = s := by omega
        have hs2 : (c : Int).tmod 128 = s := by rw [Int.tmod_eq_emod_of_nonneg (by omega)]; omega
        have hw7 : IntKind.i64.wrap (7 * (k : Int)) = 7 * k := IntWalk.i64_in _ (by omega)
        obtain ⟨q, hq⟩ : ∃ q, q = 7 * k := ⟨_, rfl⟩
        have hq1 : 7 * (k : Int) = q := by omega
        have hq2 : IntKind.i64.wrap (q : Int) = q := qcj _ (by omega)
        have hq64 : q ≤ 63 := by omega
        have hzz : IntKind.u64.wrap ((s : Int) * 2 ^ q) = z := by
         have e : ((s : Int) * 2 ^ q) = ((s * 2 ^ q : Nat) : Int) := by simp
         rw [e, hs, hq, ← hz]
         exact IntWalk.u64_in _ (by omega)
        have hjk : IntKind.i64.wrap ((j : Int) + k) = j + k := IntWalk.i64_in _ (by have := HM.out; omega)
        have hjk1 : IntKind.i64.wrap ((j : Int) + k + 1) = j + k + 1 := IntWalk.i64_in _ (by have := HM.out; omega)
        have hs128 : s < 128 := by omega
        have Hs := Hj hs; have Hz := Hj hz; have Hq := Hj hq; have Hb1 := Hj hb1; have Hb2 := Hj hb2; have Hx := Hj hx
        clear hs hz hq hb1 hb2 hx
        have hcases : ((((k : Int) == 9) = true ∧ ¬ (1 : Int) < c ∧ ((c : Int) == 0) = false)) ∨ (((k : Int) == 9) = false ∧ ((c : Int) == 0) = false) ∨ (((k : Int) == 9) = false ∧ ((c : Int) == 0) = true ∧ ¬ (0 : Int) < k) := by
         simp only [beq_iff_eq, beq_eq_false_iff_ne, ne_eq]
         omega
        by_cases hc128 : c < 128
        · have hend := vgo_end k x c (m.drop (k + 1)) h9 h0 hc128
          rw [← Hz.out] at hend
          have HE := Hj (HV.out.symm.trans hend)
          have hcg : (c : Int) < 128 := by omega
          clear hend h9 h0
          rcases hcases with ⟨hk1, hc1, hc2⟩ | ⟨hk1, hc2⟩ | ⟨hk1, hc2, hk2⟩
          all_goals
           go_wp2
           go_ret3
           refine ⟨?_, rfl⟩
           rw [HE.out]
           simp only [vres, if_true]
           congr 4
        · have hstep := vgo_step k x c (m.drop (k + 1)) h9 h0 hc128
          rw [← Hz.out] at hstep
          have HE := Hj (hstep.symm.trans HV.out)
          have hcg : ¬ (c : Int) < 128 := by omega
          have hk8 : k < 9 := by omega
          clear hstep h9 h0
          rcases hcases with ⟨hk1, hc1, hc2⟩ | ⟨hk1, hc2⟩ | ⟨hk1, hc2, hk2⟩
          · exact absurd (by simpa using hk1 : (k : Int) = 9) (by omega)
          · go_wp2
            refine ⟨⟨k + 1, x + z, by omega, by omega, by rw [Hz.out]; exact Hb2.out hk8, by go_num, by go_num, HE.out⟩, by simp [intOf]; omega⟩
          · exact absurd (by simpa using hc2 : (c : Int) = 0) (by omega)
  · have hke : k = m.length := by omega
    have hv0 : vgo 0 0 m = (0, 0, 3) := by rw [← hv, hke, List.drop_length]; rfl
    have HV0 := Hj hv0
    clear hv hv0 hke
    go_wp2
    go_ret3
    exact ⟨by rw [HV0.out]; rfl, rfl⟩
end
section
open Go.RowKit
theorem cells_crc : Tryz.prog.cellsOf 325 = 16 := by kernel_rfl
theorem cells_u32z : Tryz.prog.cellsOf 236 = 1 := by kernel_rfl
theorem gCrc : Tryz.prog.globalNamed "tsblock/crc.table" = some 1 := by kernel_rfl
theorem gCrcType : (Tryz.prog.globals[(1 : Nat)]?).map (·.type) = some 325 := by kernel_rfl
def crcList : List Nat := (List.range 16).map crcTab
end
end Go.Proofs.YtfpcgcbehdogjaaGreatDoor
