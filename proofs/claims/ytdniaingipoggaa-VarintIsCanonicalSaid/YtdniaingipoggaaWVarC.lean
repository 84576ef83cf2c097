/-
  WALKS: tsblockref02.Encode, Fold, Unfold; varint.fold, AppendSigned, GetSigned, Size; bytes.Clone; math/bits.Len64.
-/
import Derived.Test.YtdniaingipoggaaWVarA
import Derived.Test.YtdniaingipoggaaWVarB
import Derived.WalkKit
import Derived.WalkSpells
import Derived.WalkLawsBesides
import Derived.Lib.Hide
namespace Go.Proofs.Ytdniaingipoggaa
open Go.RowKit

theorem Keeps.false_trans {a b c : World} (h : Keeps (fun _ => False) a b) (k : Keeps (fun _ => False) b c) : Keeps (fun _ => False) a c := h.trans k (fun _ _ h => h)

set_option maxRecDepth 100000 in
set_option maxHeartbeats 1000000 in
theorem refEncode_any (n : Nat) : ∀ (X : Nat) (w : World), n ≤ 9 → X < 128 ^ (n + 1) → X ≤ 18446744073709551615 →
    Calls Try.prog 39 #[.int .u64 X] w fun e w' => ∃ v', e = .returned v' ∧ w'.ownsRow w.heap.size 5 1 v' (vencF n X).length (u8s (vencF n X)) ∧ Keeps (fun _ => False) w w' := by
  obtain ⟨i0, hi, hz0, hz1, hz2⟩ := info_parts infoU8
  induction n with
  | zero =>
    intro X w _ hX _
    have hlt : (X : Int) < 128 := by omega
    have hw : IntKind.u8.wrap (X : Int) = X := IntWalk.u8_in _ (by omega)
    go_enter Try.func39, Try.ntmps39
    go_wp2_with fail
    go_ret
    exact ⟨_, rfl, World.ownsRow_lit w #[.int .u8 X] 1 (Nat.le_refl _) (by decide) rfl, (Keeps.refl _ _).alloc _⟩
  | succ n ih =>
    intro X w hn9 hX hX64
    by_cases h128 : X < 128
    · have hlt : (X : Int) < 128 := by omega
      have hw : IntKind.u8.wrap (X : Int) = X := IntWalk.u8_in _ (by omega)
      have hv : vencF (n + 1) X = [X] := by simp [vencF, h128]
      rw [hv]
      clear ih hv
      go_enter Try.func39, Try.ntmps39
      go_wp2_with fail
      go_ret
      exact ⟨_, rfl, World.ownsRow_lit w #[.int .u8 X] 1 (Nat.le_refl _) (by decide) rfl, (Keeps.refl _ _).alloc _⟩
    · have hlt : ¬ (X : Int) < 128 := by omega
      have hv : vencF (n + 1) X = (X % 128 + 128) :: vencF n (X / 128) := by simp [vencF, h128]
      rw [hv]
      have IH := Lib.hid (fun w => ih (X / 128) w (by omega) (Nat.div_lt_of_lt_mul (by rw [Nat.pow_succ] at hX; omega)) (by omega))
      obtain ⟨r, hr⟩ : ∃ r, r = X % 128 + 128 := ⟨_, rfl⟩
      obtain ⟨q, hq⟩ : ∃ q, q = X / 128 := ⟨_, rfl⟩
      have hr1 : (X : Int) % 128 + 128 = r := by omega
      have hr2 : (X : Int).tmod 128 + 128 = r := by rw [Int.tmod_eq_emod_of_nonneg (by omega)]; omega
      have hr3 : IntKind.u8.wrap (r : Int) = r := IntWalk.u8_in _ (by omega)
      have hq1 : (X : Int) / 128 = q := by omega
      have hlen := vencF_length n (X / 128)
      have hpos := vencF_pos n (X / 128)
      rw [← hq] at IH hlen hpos ⊢
      rw [← hr]
      clear ih hv hr hq h128 hX
      generalize vencF n q = ys at *
      go_enter Try.func39, Try.ntmps39
      go_wp2_with fail
      refine (IH.out _).mono ?_
      rintro e w1 ⟨v1, rfl, h1, k1⟩
      obtain ⟨g, cap, cur, rfl, _⟩ := row_shape h1 (by omega)
      have hlit := k1.row (World.ownsRow_lit (e := 5) (size := 1) w #[.int .u8 r] 1 (Nat.le_refl _) (by decide) rfl) (fun _ _ h => h)
      have hs := (holds_row h1).source
      rw [u8s_length] at hs
      go_wp2_with (at_builtin; refine wpList_append_new _ rfl _ _ 31 rfl w.heap.size 5 i0 (.int .u8 0) 1 1 Try.underlying31 hi hz0 hz1 hz2 rfl (by decide) _ 1 [.int .u8 r] rfl hlit ⟨g, 0, none⟩ ys.length cap (u8s ys) rfl ?c1 ?c2 ?c3 ?c4 ?c5 ?c6 ?_)
      case c1 => rw [u8s_length]; omega
      case c2 => exact hs.2
      case c3 => exact u8s_one ys
      case c4 => unfold maxLen; omega
      case c5 => omega
      case c6 => have := k1.size; simp at this; omega
      intro v' w2 hown' hgrow hnew
      have hK : Keeps (fun _ => False) w w2 := (((Keeps.refl (fun _ => False) w).alloc _).false_trans k1).grown hgrow (fun k hk e => by simp [Value.ownBlock] at e; omega)
      have HO := Lib.hid hown'; have HK := Lib.hid hK
      clear hown' hgrow hnew hlit hs h1 k1 hK
      go_wp2_with fail
      go_ret
      refine ⟨_, rfl, ?_, HK.out⟩
      have := HO.out
      have e : 1 + ys.length = (r :: ys).length := by simp; omega
      rw [e] at this
      exact this

set_option maxHeartbeats 400000 in
theorem fold_any (x : Int) (w : World) (h1 : -9223372036854775808 ≤ x) (h2 : x ≤ 9223372036854775807) :
    Calls Try.prog 65 #[.int .i64 x] w fun e w' => e = .returned (.int .u64 ((foldN x : Nat) : Int)) ∧ w = w' := by
  go_enter Try.func65, Try.ntmps65
  go_wp2
  go_ret
  exact ⟨ret_int (fold_eq x h1 h2), rfl⟩
set_option maxHeartbeats 400000 in
theorem refFold_any (x : Int) (w : World) (h1 : -9223372036854775808 ≤ x) (h2 : x ≤ 9223372036854775807) :
    Calls Try.prog 46 #[.int .i64 x] w fun e w' => e = .returned (.int .u64 ((foldN x : Nat) : Int)) ∧ w = w' := by
  by_cases h : x < 0
  · go_enter Try.func46, Try.ntmps46
    go_wp2
    go_ret
    exact ⟨ret_int (show 2 * -(x + 1) + 1 = ((foldN x : Nat) : Int) by unfold foldN; rw [if_pos (by omega)]; omega), rfl⟩
  · go_enter Try.func46, Try.ntmps46
    go_wp2
    go_ret
    exact ⟨ret_int (show 2 * x = ((foldN x : Nat) : Int) by unfold foldN; rw [if_neg (by omega)]; omega), rfl⟩
set_option maxHeartbeats 400000 in
theorem unfold_any (X : Nat) (w : World) (h1 : X ≤ 18446744073709551615) :
    Calls Try.prog 62 #[.int .u64 X] w fun e w' => e = .returned (.int .i64 (unfoldI X)) ∧ w = w' := by
  go_enter Try.func62, Try.ntmps62
  go_wp2
  go_ret
  exact ⟨ret_int (unfold_eq X h1), rfl⟩
set_option maxHeartbeats 400000 in
theorem refUnfold_any (X : Nat) (w : World) (h1 : X ≤ 18446744073709551615) :
    Calls Try.prog 42 #[.int .u64 X] w fun e w' => e = .returned (.int .i64 (unfoldI X)) ∧ w = w' := by
  by_cases h : X % 2 = 1
  · have h' : ((X : Int) % 2 == 1) = true := by simp; omega
    have h'' : ((X : Int).tmod 2 == 1) = true := by rw [Int.tmod_eq_emod_of_nonneg (by omega)]; exact h'
    have hu : unfoldI X = -((X : Int) / 2) - 1 := by unfold unfoldI; rw [if_pos h]
    have HU := Lib.hid hu
    clear h hu
    go_enter Try.func42, Try.ntmps42
    go_wp2
    go_ret
    exact ⟨ret_int HU.out.symm, rfl⟩
  · have h' : ((X : Int) % 2 == 1) = false := by simp; omega
    have h'' : ((X : Int).tmod 2 == 1) = false := by rw [Int.tmod_eq_emod_of_nonneg (by omega)]; exact h'
    have hu : unfoldI X = (X : Int) / 2 := by unfold unfoldI; rw [if_neg h]
    have HU := Lib.hid hu
    clear h hu
    go_enter Try.func42, Try.ntmps42
    go_wp2
    go_ret
    exact ⟨ret_int HU.out.symm, rfl⟩

set_option maxHeartbeats 400000 in
theorem appendSigned_any (base : Nat) (v : Value) (l : List Nat) (x : Int) (w : World) (h : w.ownsRow base 5 1 v (u8s l).length (u8s l)) (h1 : -9223372036854775808 ≤ x) (h2 : x ≤ 9223372036854775807) (hl : l.length ≤ 1099511627776) (hb0 : base ≤ w.heap.size) :
    Calls Try.prog 45 #[v, .int .i64 x] w fun e w' => ∃ v', e = .returned v' ∧ RowTo 5 base v w v' (u8s (l ++ venc (foldN x))) w' := by
  go_enter Try.func45, Try.ntmps45
  go_wp2_with fail
  refine (fold_any x w h1 h2).mono ?_
  rintro e w1 ⟨rfl, rfl⟩
  go_wp2_with fail
  refine (append_any base v l (foldN x) w h (foldN_le x h1 h2) hl hb0).mono ?_
  rintro e w1 ⟨v', rfl, hR⟩
  go_wp2_with fail
  go_ret
  exact ⟨v', rfl, hR⟩

def vresS (at_ : Nat) (r : Nat × Nat × Nat) : Ending := .returned (.tuple #[.int .i64 (unfoldI r.1), .int .i64 (((if r.2.2 = 0 then at_ + r.2.1 else 0 : Nat)) : Int), .int .i64 ((r.2.2 : Nat) : Int)])
theorem vgo_le (l : List Nat) : ∀ i x, i ≤ 9 → x < 2 ^ (7 * i) → (vgo i x l).1 ≤ 18446744073709551615 := by
  induction l with
  | nil => intro i x _ _; simp [vgo]
  | cons c r ih =>
    intro i x hi hx
    rw [vgo]
    split
    · simp
    · rename_i h9
      split
      · simp
      · obtain ⟨hb1, hb2⟩ := vgo_bound x i c hx hi (fun e => by omega)
        split
        · exact hb1
        · exact ih (i + 1) _ (by omega) (hb2 (by omega))
set_option maxHeartbeats 400000 in
theorem getSigned_any (v : Value) (l : List Nat) (j : Nat) (w : World) (h : Holds w v (u8s l)) (hb : ∀ c ∈ l, c < 256) (hj : j ≤ l.length) (hl : l.length ≤ 140737488351232) :
    Calls Try.prog 41 #[v, .int .i64 j] w fun e w' => e = vresS j (vgo 0 0 (l.drop j)) ∧ w = w' := by
  go_enter Try.func41, Try.ntmps41
  go_wp2_with fail
  refine (vget_any v l j w h hb hj hl).mono ?_
  have hle := vgo_le (l.drop j) 0 0 (by omega) (by omega)
  obtain ⟨r, hr⟩ : ∃ r, r = vgo 0 0 (l.drop j) := ⟨_, rfl⟩
  rw [← hr] at hle ⊢
  have Hr := Lib.hid hr
  clear hr
  obtain ⟨r1, r2, r3⟩ := r
  simp only at hle
  obtain ⟨t, ht⟩ : ∃ t : Int, t = ((if r3 = 0 then j + r2 else 0 : Nat) : Int) := ⟨_, rfl⟩
  have he : vres j (r1, r2, r3) = .returned (.tuple #[.int .u64 ((r1 : Nat) : Int), .int .i64 t, .int .i64 ((r3 : Nat) : Int)]) := by simp only [vres, ht]
  have he2 : vresS j (r1, r2, r3) = .returned (.tuple #[.int .i64 (unfoldI r1), .int .i64 t, .int .i64 ((r3 : Nat) : Int)]) := by simp only [vresS, ht]
  rw [he]
  have He2 := Lib.hid he2
  clear he he2 ht
  rintro e w1 ⟨rfl, rfl⟩
  go_wp2_with fail
  refine (unfold_any r1 w hle).mono ?_
  rintro e w1 ⟨rfl, rfl⟩
  go_wp2_with fail
  go_ret3
  exact ⟨by rw [← Hr.out, He2.out]; rfl, rfl⟩
set_option maxHeartbeats 400000 in
theorem getSigned_bad (v : Value) (l : List Nat) (j : Int) (w : World) (h : Holds w v (u8s l)) (hj : j < 0 ∨ (l.length : Int) < j) :
    Calls Try.prog 41 #[v, .int .i64 j] w fun e w' => e = .returned (.tuple #[.int .i64 0, .int .i64 0, .int .i64 2]) ∧ w = w' := by
  go_enter Try.func41, Try.ntmps41
  go_wp2_with fail
  refine (vget_bad v l j w h hj).mono ?_
  rintro e w1 ⟨rfl, rfl⟩
  go_wp2_with fail
  refine (unfold_any 0 w (by omega)).mono ?_
  rintro e w1 ⟨rfl, rfl⟩
  go_wp2_with fail
  go_ret3
  exact ⟨rfl, rfl⟩

set_option maxRecDepth 100000 in
set_option maxHeartbeats 400000 in
theorem bclone_none (n c : Nat) (w : World) : Calls Try.prog 29 #[.slice none n c] w fun e w' => e = .returned (.slice none 0 0) ∧ w = w' := by
  have hn := fun (w : World) n c => Lib.run_eql_slice_nil (P := Try.prog) w 31 5 none n c 0 0 Try.underlying31
  go_enter Try.func29, Try.ntmps29
  go_wp2
  go_ret
  exact ⟨rfl, rfl⟩
set_option maxRecDepth 100000 in
set_option maxHeartbeats 400000 in
theorem bclone_some (a : Addr) (len cap : Nat) (xs : List Value) (w : World) (h : Holds w (.slice (some a) len cap) xs) (hx : xs.length ≤ 140737488351232) (hone : ∀ u ∈ xs, u.oneCell' = true) :
    Calls Try.prog 29 #[.slice (some a) len cap] w fun e w' => ∃ v, e = .returned v ∧ w'.ownsRow w.heap.size 5 1 v xs.length xs ∧ Keeps (fun _ => False) w w' := by
  obtain ⟨i0, hi, hz0, hz1, hz2⟩ := info_parts infoU8
  have hn := fun (w : World) n c => Lib.run_eql_slice_nil (P := Try.prog) w 31 5 (some a) n c 0 0 Try.underlying31
  obtain ⟨hlen, hnews⟩ := h.source
  go_enter Try.func29, Try.ntmps29
  go_wp2_with (at_builtin; refine wpList_append_new _ rfl _ _ 31 rfl w.heap.size 5 i0 (.int .u8 0) 1 1 Try.underlying31 hi hz0 hz1 hz2 rfl (by decide) _ 0 [] rfl (World.ownsRow_lit w #[] 0 (Nat.le_refl _) (by decide) rfl) a len cap xs rfl ?c1 ?c2 ?c3 ?c4 ?c5 ?c6 ?_)
  case c1 => omega
  case c2 =>
    intro j u hj
    rw [cell_alloc_old _ _ (World.block_lt_of_cell? w _ (hnews j u hj))]
    exact hnews j u hj
  case c3 => exact hone
  case c4 => unfold maxLen; omega
  case c5 => omega
  case c6 => simp
  intro v' w1 hown' hgrow hnew
  go_wp2
  go_ret
  exact ⟨v', rfl, by rw [hlen]; exact hown', ((Keeps.refl (fun _ => False) w).alloc _).grown hgrow (fun k hk e => by simp [Value.ownBlock] at e; omega)⟩
theorem bclone_any (v : Value) (l : List Nat) (w : World) (h : Holds w v (u8s l)) (hx : l.length ≤ 140737488351232) :
    Calls Try.prog 29 #[v] w fun e w' => ∃ v', e = .returned v' ∧ w'.ownsRow w.heap.size 5 1 v' (u8s l).length (u8s l) ∧ Keeps (fun _ => False) w w' := by
  have h0 := h
  obtain ⟨ad, cap, rfl, hc, h⟩ := h
  cases ad with
  | none =>
    have hl : l = [] := by
      rcases h with h | ⟨b, off, hb, _⟩
      · cases l <;> simp_all [u8s]
      · cases hb
    subst hl
    refine (bclone_none 0 cap w).mono ?_
    rintro e w' ⟨rfl, rfl⟩
    exact ⟨_, rfl, World.ownsRow_nil _ _ _ _, Keeps.refl _ _⟩
  | some a => exact bclone_some a _ cap (u8s l) w h0 (by rw [u8s_length]; exact hx) (u8s_one l)
end Go.Proofs.Ytdniaingipoggaa
