/-
  PLAIN: runs of values (chapter 7): splitting, joining, writing and reading. No program in sight.
-/
import Derived.Test.YtdniaingipoggaaPRdr
import Derived.Test.YtdniaingipoggaaPRound
namespace Go.Proofs.Ytdniaingipoggaa

/-- the number of leading elements that are x, at most k -/
def lead (x : Nat) : Nat → List Nat → Nat
  | 0, _ => 0
  | _ + 1, [] => 0
  | k + 1, y :: r => if y = x then lead x k r + 1 else 0
/-- the runs, with fuel -/
def runsF : Nat → List Nat → List (Nat × Nat)
  | 0, _ => []
  | _ + 1, [] => []
  | n + 1, x :: r => (x, lead x 127 r + 1) :: runsF n (r.drop (lead x 127 r))
def runsOf (l : List Nat) : List (Nat × Nat) := runsF l.length l
theorem lead_le (x k : Nat) (l : List Nat) : lead x k l ≤ k ∧ lead x k l ≤ l.length := by
  induction l generalizing k with
  | nil => cases k <;> simp [lead]
  | cons y r ih =>
    cases k with
    | zero => simp [lead]
    | succ k =>
      simp only [lead]
      split
      · have := ih k; simp only [List.length_cons]; omega
      · simp
theorem lead_take (x k : Nat) (l : List Nat) : l.take (lead x k l) = List.replicate (lead x k l) x := by
  induction l generalizing k with
  | nil => cases k <;> simp [lead]
  | cons y r ih =>
    cases k with
    | zero => simp [lead]
    | succ k =>
      simp only [lead]
      split
      · rename_i h
        subst h
        simp [List.replicate_succ, ih k]
      · simp
theorem runsF_fuel (n m : Nat) (l : List Nat) (hn : l.length ≤ n) (hm : l.length ≤ m) : runsF n l = runsF m l := by
  induction n generalizing m l with
  | zero =>
    have : l = [] := List.eq_nil_of_length_eq_zero (by omega)
    subst this
    cases m <;> simp [runsF]
  | succ n ih =>
    cases l with
    | nil => cases m <;> simp [runsF]
    | cons x r =>
      cases m with
      | zero => simp at hm
      | succ m =>
        simp only [runsF]
        rw [ih m _ (by simp only [List.length_cons, List.length_drop] at hn ⊢; omega) (by simp only [List.length_cons, List.length_drop] at hm ⊢; omega)]
theorem runsOf_nil : runsOf [] = [] := rfl
theorem runsOf_cons (x : Nat) (r : List Nat) : runsOf (x :: r) = (x, lead x 127 r + 1) :: runsOf (r.drop (lead x 127 r)) := by
  unfold runsOf
  simp only [List.length_cons, runsF]
  rw [runsF_fuel r.length (r.drop (lead x 127 r)).length _ (by rw [List.length_drop]; omega) (Nat.le_refl _)]
theorem runsF_length (n : Nat) (l : List Nat) : (runsF n l).length ≤ l.length := by
  induction n generalizing l with
  | zero => simp [runsF]
  | succ n ih =>
    cases l with
    | nil => simp [runsF]
    | cons x r => simp only [runsF, List.length_cons]; have := ih (r.drop (lead x 127 r)); rw [List.length_drop] at this; omega
theorem runsOf_length (l : List Nat) : (runsOf l).length ≤ l.length := runsF_length _ _
/-- the values of runs -/
def joinOf (rs : List (Nat × Nat)) : List Nat := rs.flatMap fun p => List.replicate p.2 p.1
theorem joinOf_cons (p : Nat × Nat) (rs : List (Nat × Nat)) : joinOf (p :: rs) = List.replicate p.2 p.1 ++ joinOf rs := by simp [joinOf]
theorem joinOf_append (a b : List (Nat × Nat)) : joinOf (a ++ b) = joinOf a ++ joinOf b := by simp [joinOf]
theorem joinOf_runsF (n : Nat) (l : List Nat) (hn : l.length ≤ n) : joinOf (runsF n l) = l := by
  induction n generalizing l with
  | zero =>
    have : l = [] := List.eq_nil_of_length_eq_zero (by omega)
    subst this; rfl
  | succ n ih =>
    cases l with
    | nil => rfl
    | cons x r =>
      simp only [runsF, joinOf_cons]
      rw [ih _ (by simp only [List.length_cons, List.length_drop] at hn ⊢; omega), List.replicate_succ, ← lead_take x 127 r, List.cons_append, List.take_append_drop]
theorem joinOf_runsOf (l : List Nat) : joinOf (runsOf l) = l := joinOf_runsF _ _ (Nat.le_refl _)

/-- one step of the reference's Split -/
def refStep (acc : List (Nat × Nat)) (x : Nat) : List (Nat × Nat) :=
  match acc.getLast? with
  | some p => if p.1 = x ∧ p.2 < 128 then acc.dropLast ++ [(p.1, p.2 + 1)] else acc ++ [(x, 1)]
  | none => acc ++ [(x, 1)]
theorem refStep_same (pre : List (Nat × Nat)) (x c : Nat) (h : c < 128) : refStep (pre ++ [(x, c)]) x = pre ++ [(x, c + 1)] := by
  unfold refStep
  rw [List.getLast?_concat]
  simp [h]
theorem refStep_new (pre : List (Nat × Nat)) (x c y : Nat) (h : ¬ (x = y ∧ c < 128)) : refStep (pre ++ [(x, c)]) y = pre ++ [(x, c)] ++ [(y, 1)] := by
  unfold refStep
  rw [List.getLast?_concat]
  simp only [if_neg h]
theorem refStep_nil (y : Nat) : refStep [] y = [(y, 1)] := rfl
theorem foldl_refStep (l : List Nat) : ∀ (pre : List (Nat × Nat)) (x c : Nat), 1 ≤ c → c ≤ 128 →
    l.foldl refStep (pre ++ [(x, c)]) = pre ++ (x, c + lead x (128 - c) l) :: runsOf (l.drop (lead x (128 - c) l)) := by
  induction l with
  | nil => intro pre x c _ hc; cases h : 128 - c <;> simp [lead, runsOf_nil]
  | cons y r ih =>
    intro pre x c h1 hc
    rw [List.foldl_cons]
    by_cases h : x = y ∧ c < 128
    · obtain ⟨rfl, hc2⟩ := h
      rw [refStep_same _ _ _ hc2, ih pre x (c + 1) (by omega) (by omega)]
      have e : 128 - c = (128 - (c + 1)) + 1 := by omega
      rw [e]
      simp only [lead, if_true]
      rw [show c + 1 + lead x (128 - (c + 1)) r = c + (lead x (128 - (c + 1)) r + 1) by omega, List.drop_succ_cons]
    · rw [refStep_new _ _ _ _ h, ih (pre ++ [(x, c)]) y 1 (by omega) (by omega)]
      have e : lead x (128 - c) (y :: r) = 0 := by
        rcases Nat.lt_or_ge c 128 with h2 | h2
        · have e : 128 - c = (128 - (c + 1)) + 1 := by omega
          rw [e]
          simp only [lead]
          rw [if_neg (fun he => h ⟨he.symm, h2⟩)]
        · rw [show 128 - c = 0 by omega]; rfl
      rw [e, List.drop_zero, runsOf_cons]
      simp [Nat.add_comm 1]
theorem refSplit_eq (l : List Nat) : l.foldl refStep [] = runsOf l := by
  cases l with
  | nil => rfl
  | cons x r =>
    rw [List.foldl_cons, refStep_nil, show [(x, 1)] = [] ++ [(x, 1)] from rfl, foldl_refStep r [] x 1 (by omega) (by omega), runsOf_cons]
    simp [Nat.add_comm 1]
/-- counts are in range; no two neighbors could be one run -/
def canonR : Nat × Nat → List (Nat × Nat) → Prop
  | _, [] => True
  | last, p :: rs => 1 ≤ p.2 ∧ p.2 ≤ 128 ∧ ¬ (p.1 = last.1 ∧ last.2 < 128) ∧ canonR p rs
theorem foldl_rep (x : Nat) : ∀ (d c : Nat) (pre : List (Nat × Nat)), c + d ≤ 128 → (List.replicate d x).foldl refStep (pre ++ [(x, c)]) = pre ++ [(x, c + d)] := by
  intro d
  induction d with
  | zero => intro c pre _; rfl
  | succ d ih =>
    intro c pre h
    rw [List.replicate_succ, List.foldl_cons, refStep_same _ _ _ (by omega), ih _ _ (by omega)]
    rw [show c + 1 + d = c + (d + 1) by omega]
theorem foldl_join (rs : List (Nat × Nat)) : ∀ (pre : List (Nat × Nat)) (last : Nat × Nat), canonR last rs → (joinOf rs).foldl refStep (pre ++ [last]) = pre ++ [last] ++ rs := by
  induction rs with
  | nil => intro pre last _; simp [joinOf]
  | cons p rs ih =>
    rintro pre ⟨x, c⟩ ⟨h1, h2, h3, h4⟩
    obtain ⟨y, d⟩ := p
    simp only at h1 h2 h3
    obtain ⟨m, rfl⟩ : ∃ m, d = m + 1 := ⟨d - 1, by omega⟩
    rw [joinOf_cons, List.foldl_append]
    simp only [List.replicate_succ, List.foldl_cons]
    rw [refStep_new _ _ _ _ (fun h => h3 ⟨h.1.symm, h.2⟩), foldl_rep y m 1 _ (by omega), Nat.add_comm 1 m, ih _ _ h4]
    simp
theorem runsOf_joinOf (rs : List (Nat × Nat)) (h : canonR (0, 128) rs) : runsOf (joinOf rs) = rs := by
  rw [← refSplit_eq]
  cases rs with
  | nil => rfl
  | cons p rs =>
    obtain ⟨h1, h2, h3, h4⟩ := h
    obtain ⟨y, d⟩ := p
    simp only at h1 h2 h3
    obtain ⟨m, rfl⟩ : ∃ m, d = m + 1 := ⟨d - 1, by omega⟩
    rw [joinOf_cons, List.foldl_append]
    simp only [List.replicate_succ, List.foldl_cons]
    rw [refStep_nil, show [(y, 1)] = [] ++ [(y, 1)] from rfl, foldl_rep y m 1 _ (by omega), Nat.add_comm 1 m, foldl_join rs [] _ h4]
    simp
theorem lead_stop (x : Nat) : ∀ (k : Nat) (l : List Nat) (y : Nat) (r : List Nat), l.drop (lead x k l) = y :: r → lead x k l < k → y ≠ x := by
  intro k
  induction k with
  | zero => intro l y r _ h; simp [lead] at h
  | succ k ih =>
    intro l y r hd hlt
    cases l with
    | nil => simp [lead] at hd
    | cons z t =>
      simp only [lead] at hd hlt
      by_cases h : z = x
      · rw [if_pos h] at hd hlt
        exact ih t y r (by simpa using hd) (by omega)
      · rw [if_neg h] at hd
        simp only [List.drop_zero, List.cons.injEq] at hd
        rw [← hd.1]; exact h
theorem canon_runsF (n : Nat) (l : List Nat) (hn : l.length ≤ n) : ∀ last : Nat × Nat, (∀ y r, l = y :: r → ¬ (y = last.1 ∧ last.2 < 128)) → canonR last (runsF n l) := by
  induction n generalizing l with
  | zero => intro last _; simp [runsF, canonR]
  | succ n ih =>
    intro last hl
    cases l with
    | nil => simp [runsF, canonR]
    | cons x r =>
      simp only [runsF, canonR]
      have hb := lead_le x 127 r
      refine ⟨by omega, by omega, hl x r rfl, ih _ (by simp only [List.length_cons, List.length_drop] at hn ⊢; omega) _ (fun y t hd => ?_)⟩
      rintro ⟨h1, h2⟩
      simp only at h1 h2
      exact lead_stop x 127 r y t hd (by omega) h1
theorem canon_runsOf (l : List Nat) : canonR (0, 128) (runsOf l) := canon_runsF _ _ (Nat.le_refl _) _ (fun y r _ h => by simp at h)
/-- the bits of runs -/
def encRun (p : Nat × Nat) : List Bool := fieldBits p.1 64 ++ fieldBits (p.2 - 1) 7
def encRuns (rs : List (Nat × Nat)) : List Bool := rs.flatMap encRun
theorem encRun_length (p : Nat × Nat) : (encRun p).length = 71 := by simp [encRun, fieldBits_length]
theorem encRuns_length (rs : List (Nat × Nat)) : (encRuns rs).length = 71 * rs.length := by
  induction rs with
  | nil => rfl
  | cons p rs ih => simp only [encRuns, List.flatMap_cons, List.length_append, encRun_length, List.length_cons] at ih ⊢; omega
theorem encRuns_cons (p : Nat × Nat) (rs : List (Nat × Nat)) : encRuns (p :: rs) = encRun p ++ encRuns rs := by simp [encRuns]
theorem encRuns_snoc (p : Nat × Nat) (rs : List (Nat × Nat)) : encRuns (rs ++ [p]) = encRuns rs ++ encRun p := by simp [encRuns]
/-- reading n values: the error, the runs, the bits that are left -/
def rget : Nat → Nat → Nat × Nat → List Bool → Nat × List (Nat × Nat) × List Bool
  | 0, _, _, b => (0, [], b)
  | f + 1, n, last, b =>
    if n = 0 then (0, [], b) else
    if b.length < 64 then (3, [], b) else
    if b.length < 71 then (3, [], b.drop 64) else
    if n < bitsNat ((b.drop 64).take 7) + 1 ∨ (bitsNat (b.take 64) = last.1 ∧ last.2 < 128) then (8, [], b.drop 71) else
    ((rget f (n - (bitsNat ((b.drop 64).take 7) + 1)) (bitsNat (b.take 64), bitsNat ((b.drop 64).take 7) + 1) (b.drop 71)).1,
      (bitsNat (b.take 64), bitsNat ((b.drop 64).take 7) + 1) :: (rget f (n - (bitsNat ((b.drop 64).take 7) + 1)) (bitsNat (b.take 64), bitsNat ((b.drop 64).take 7) + 1) (b.drop 71)).2.1,
      (rget f (n - (bitsNat ((b.drop 64).take 7) + 1)) (bitsNat (b.take 64), bitsNat ((b.drop 64).take 7) + 1) (b.drop 71)).2.2)
/-- what was read before -/
def after (acc : List (Nat × Nat)) (r : Nat × List (Nat × Nat) × List Bool) : Nat × List (Nat × Nat) × List Bool := (r.1, acc ++ r.2.1, r.2.2)
theorem after_nil (r : Nat × List (Nat × Nat) × List Bool) : after [] r = r := rfl
theorem rget_done (f n : Nat) (last : Nat × Nat) (b : List Bool) (h : n = 0) : rget f n last b = (0, [], b) := by subst h; cases f <;> simp [rget]
theorem rget_eof1 (f n : Nat) (last : Nat × Nat) (b : List Bool) (h : n ≠ 0) (hb : b.length < 64) : rget (f + 1) n last b = (3, [], b) := by rw [rget, if_neg h, if_pos hb]
theorem rget_eof2 (f n : Nat) (last : Nat × Nat) (b : List Bool) (h : n ≠ 0) (h1 : 64 ≤ b.length) (hb : b.length < 71) : rget (f + 1) n last b = (3, [], b.drop 64) := by rw [rget, if_neg h, if_neg (by omega), if_pos hb]
theorem rget_bad (f n x c : Nat) (last : Nat × Nat) (b : List Bool) (h : n ≠ 0) (h1 : 71 ≤ b.length) (hx : bitsNat (b.take 64) = x) (hc : bitsNat ((b.drop 64).take 7) + 1 = c) (hb : n < c ∨ (x = last.1 ∧ last.2 < 128)) : rget (f + 1) n last b = (8, [], b.drop 71) := by
  rw [rget, if_neg h, if_neg (by omega), if_neg (by omega), hx, hc, if_pos hb]
theorem rget_step (f n x c : Nat) (last : Nat × Nat) (b : List Bool) (h : n ≠ 0) (h1 : 71 ≤ b.length) (hx : bitsNat (b.take 64) = x) (hc : bitsNat ((b.drop 64).take 7) + 1 = c) (hb : ¬ (n < c ∨ (x = last.1 ∧ last.2 < 128))) :
    rget (f + 1) n last b = after [(x, c)] (rget f (n - c) (x, c) (b.drop 71)) := by
  rw [rget, if_neg h, if_neg (by omega), if_neg (by omega), hx, hc, if_neg hb]; rfl
theorem after_after (a b : List (Nat × Nat)) (r : Nat × List (Nat × Nat) × List Bool) : after a (after b r) = after (a ++ b) r := by simp [after]
theorem bits_inv (l : List Bool) : fieldBits (bitsNat l) l.length = l := by
  have key : ∀ (n : Nat) (l : List Bool), l.length = n → fieldBits (bitsNat l) n = l := by
    intro n
    induction n with
    | zero => intro l hl; rw [List.eq_nil_of_length_eq_zero hl]; rfl
    | succ n ih =>
      intro l hl
      rcases snoc_cases l with rfl | ⟨l', b, rfl⟩
      · simp at hl
      · have := ih l' (by simpa using hl)
        rw [bitsNat_snoc, ← fieldTake_all, fieldTake_succ]
        have e : ∀ i, i < n → (bitsNat l' * 2 + b.toNat).testBit (n + 1 - 1 - i) = (bitsNat l').testBit (n - 1 - i) := by
          intro i hi
          rw [show n + 1 - 1 - i = (n - 1 - i) + 1 by omega, Nat.testBit_succ]
          congr 1
          cases b <;> simp <;> omega
        have e2 : fieldTake (bitsNat l' * 2 + b.toNat) (n + 1) n = l' := by
          refine Eq.trans ?_ this
          unfold fieldTake fieldBits
          exact List.map_congr_left fun i hi => e i (List.mem_range.1 hi)
        rw [e2]
        congr 1
        simp only [Nat.add_sub_cancel, Nat.sub_self, Nat.testBit_zero]
        cases b <;> simp <;> omega
  exact key _ l rfl
theorem rget_sound : ∀ (f n : Nat) (last : Nat × Nat) (b : List Bool) (rs : List (Nat × Nat)) (r : List Bool), n ≤ f → rget f n last b = (0, rs, r) → b = encRuns rs ++ r ∧ (joinOf rs).length = n ∧ canonR last rs := by
  intro f
  induction f with
  | zero =>
    intro n last b rs r hn h
    simp only [rget, Prod.mk.injEq] at h
    obtain ⟨_, rfl, rfl⟩ := h
    exact ⟨rfl, by simp [joinOf]; omega, trivial⟩
  | succ f ih =>
    intro n last b rs r hn h
    by_cases h0 : n = 0
    · rw [rget_done _ _ _ _ h0] at h
      simp only [Prod.mk.injEq] at h
      obtain ⟨_, rfl, rfl⟩ := h
      exact ⟨rfl, by simp [joinOf]; omega, trivial⟩
    · by_cases h1 : b.length < 64
      · rw [rget_eof1 _ _ _ _ h0 h1] at h; simp at h
      · by_cases h2 : b.length < 71
        · rw [rget_eof2 _ _ _ _ h0 (by omega) h2] at h; simp at h
        · obtain ⟨x, hx⟩ : ∃ x, bitsNat (b.take 64) = x := ⟨_, rfl⟩
          obtain ⟨c, hc⟩ : ∃ c, bitsNat ((b.drop 64).take 7) + 1 = c := ⟨_, rfl⟩
          by_cases hb : n < c ∨ (x = last.1 ∧ last.2 < 128)
          · rw [rget_bad _ _ _ _ _ _ h0 (by omega) hx hc hb] at h; simp at h
          · rw [rget_step _ _ _ _ _ _ h0 (by omega) hx hc hb] at h
            obtain ⟨⟨e', rs', r'⟩, hq⟩ : ∃ q, rget f (n - c) (x, c) (b.drop 71) = q := ⟨_, rfl⟩
            rw [hq] at h
            simp only [after, Prod.mk.injEq] at h
            obtain ⟨rfl, rfl, rfl⟩ := h
            obtain ⟨i1, i2, i3⟩ := ih _ _ _ _ _ (by omega) hq
            have hlt : bitsNat ((b.drop 64).take 7) < 2 ^ 7 := by
              have := bitsNat_lt ((b.drop 64).take 7)
              rwa [List.length_take, List.length_drop, Nat.min_eq_left (by omega)] at this
            refine ⟨?_, ?_, ?_⟩
            · show b = encRuns ((x, c) :: rs') ++ r'
              rw [encRuns_cons, List.append_assoc, ← i1]
              unfold encRun
              simp only
              have b1 := bits_inv (b.take 64)
              rw [List.length_take, Nat.min_eq_left (by omega), hx] at b1
              have b2 := bits_inv ((b.drop 64).take 7)
              rw [List.length_take, List.length_drop, Nat.min_eq_left (by omega), show bitsNat ((b.drop 64).take 7) = c - 1 by omega] at b2
              rw [b1, b2, List.append_assoc, show b.drop 71 = (b.drop 64).drop 7 by rw [List.drop_drop], List.take_append_drop, List.take_append_drop]
            · show (joinOf ((x, c) :: rs')).length = n
              rw [joinOf_cons, List.length_append, i2, List.length_replicate]; omega
            · exact ⟨by show 1 ≤ c; omega, by show c ≤ 128; omega, fun h => hb (.inr h), i3⟩
theorem rget_complete (pad : List Bool) : ∀ (rs : List (Nat × Nat)) (f n : Nat) (last : Nat × Nat), n ≤ f → (joinOf rs).length = n → (∀ p ∈ rs, p.1 < 18446744073709551616) → canonR last rs → rget f n last (encRuns rs ++ pad) = (0, rs, pad) := by
  intro rs
  induction rs with
  | nil => intro f n last hf hn _ _; rw [rget_done _ _ _ _ (by simpa [joinOf] using hn.symm)]; rfl
  | cons p rs ih =>
    rintro f n last hf hn hp ⟨h1, h2, h3, h4⟩
    obtain ⟨x, c⟩ := p
    simp only at h1 h2 h3
    rw [joinOf_cons, List.length_append, List.length_replicate] at hn
    simp only at hn
    obtain ⟨g, rfl⟩ : ∃ g, f = g + 1 := ⟨f - 1, by omega⟩
    have hx := hp (x, c) (by simp)
    simp only at hx
    have e0 : encRuns ((x, c) :: rs) ++ pad = fieldBits x 64 ++ (fieldBits (c - 1) 7 ++ (encRuns rs ++ pad)) := by rw [encRuns_cons]; simp [encRun]
    have e1 : (encRuns ((x, c) :: rs) ++ pad).take 64 = fieldBits x 64 := by rw [e0, List.take_left' (by rw [fieldBits_length])]
    have e2 : (encRuns ((x, c) :: rs) ++ pad).drop 64 = fieldBits (c - 1) 7 ++ (encRuns rs ++ pad) := by rw [e0, List.drop_left' (by rw [fieldBits_length])]
    have e3 : ((encRuns ((x, c) :: rs) ++ pad).drop 64).take 7 = fieldBits (c - 1) 7 := by rw [e2, List.take_left' (by rw [fieldBits_length])]
    have e4 : (encRuns ((x, c) :: rs) ++ pad).drop 71 = encRuns rs ++ pad := by
      rw [show (71 : Nat) = 64 + 7 from rfl, ← List.drop_drop, e2, List.drop_left' (by rw [fieldBits_length])]
    have e5 : bitsNat ((encRuns ((x, c) :: rs) ++ pad).take 64) = x := by rw [e1, bitsNat_field]; exact Nat.mod_eq_of_lt (by omega)
    have e6 : bitsNat (((encRuns ((x, c) :: rs) ++ pad).drop 64).take 7) + 1 = c := by rw [e3, bitsNat_field, Nat.mod_eq_of_lt (by omega)]; omega
    have hlen : 71 ≤ (encRuns ((x, c) :: rs) ++ pad).length := by rw [List.length_append, encRuns_length, List.length_cons]; omega
    rw [rget_step _ _ x c _ _ (by omega) hlen e5 e6 (fun h => h.elim (fun h => by omega) h3), e4, ih g (n - c) (x, c) (by omega) (by omega) (fun p hp' => hp p (by simp [hp'])) h4]
    rfl
theorem joinOf_mem {rs : List (Nat × Nat)} {p : Nat × Nat} (hp : p ∈ rs) (h1 : 1 ≤ p.2) : p.1 ∈ joinOf rs := by
  simp only [joinOf, List.mem_flatMap]
  exact ⟨p, hp, by simp; omega⟩
theorem canonR_pos : ∀ (rs : List (Nat × Nat)) (last : Nat × Nat), canonR last rs → ∀ p ∈ rs, 1 ≤ p.2 ∧ p.2 ≤ 128 := by
  intro rs
  induction rs with
  | nil => intro _ _ p hp; simp at hp
  | cons q rs ih =>
    rintro last ⟨h1, h2, h3, h4⟩ p hp
    rcases List.mem_cons.1 hp with rfl | hp
    · exact ⟨h1, h2⟩
    · exact ih _ h4 p hp
theorem runsOf_mem {l : List Nat} {p : Nat × Nat} (hp : p ∈ runsOf l) : p.1 ∈ l ∧ 1 ≤ p.2 ∧ p.2 ≤ 128 := by
  have h := canonR_pos _ _ (canon_runsOf l) p hp
  refine ⟨?_, h⟩
  have := joinOf_mem hp h.1
  rwa [joinOf_runsOf] at this
#print axioms rget_complete
end Go.Proofs.Ytdniaingipoggaa
