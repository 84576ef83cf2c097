/-
  WALKS: varint.Get, tsblockref02.Get.
-/
import Derived.Test.YtdniaingipoggaaPVar
import Derived.Test.YtdniaingipoggaaWReader
import Derived.WalkKit
import Derived.WalkSpells
import Derived.WalkLawsBesides
import Derived.Lib.Hide
namespace Go.Proofs.Ytdniaingipoggaa
open Go.RowKit

theorem vgo_step (i x c : Nat) (r : List Nat) (h9 : ¬ (i = 9 ∧ 1 < c)) (h0 : ¬ (c = 0 ∧ 0 < i)) (hc : ¬ c < 128) : vgo i x (c :: r) = vgo (i + 1) (x + c % 128 * 2 ^ (7 * i)) r := by
  rw [vgo, if_neg h9, if_neg h0, if_neg hc]
theorem vgo_over (x c : Nat) (r : List Nat) (h : 1 < c) : vgo 9 x (c :: r) = (0, 0, 6) := by rw [vgo, if_pos ⟨rfl, h⟩]
theorem vgo_min (i x : Nat) (r : List Nat) (h0 : 0 < i) : vgo i x (0 :: r) = (0, 0, 5) := by rw [vgo, if_neg (by omega), if_pos ⟨rfl, h0⟩]
theorem vgo_end (i x c : Nat) (r : List Nat) (h9 : ¬ (i = 9 ∧ 1 < c)) (h0 : ¬ (c = 0 ∧ 0 < i)) (hc : c < 128) : vgo i x (c :: r) = (x + c % 128 * 2 ^ (7 * i), i + 1, 0) := by
  rw [vgo, if_neg h9, if_neg h0, if_pos hc]
theorem vgo_acc (x i m : Nat) (c : Nat) (hx : x < 2 ^ (7 * i)) (hm : m = c % 128 * 2 ^ (7 * i)) (hb : x + m ≤ 18446744073709551615) : bits .or .u64 ((x : Nat) : Int) ((m : Nat) : Int) = ((x + m : Nat) : Int) := by
  rw [u64_or_nat _ _ (by omega) (by omega)]
  congr 1
  rw [Nat.or_comm, nat_join (7 * i) m x (by rw [hm]; simp) hx]
  omega
theorem vgo_bound (x i c : Nat) (hx : x < 2 ^ (7 * i)) (hi : i ≤ 9) (hc : i = 9 → c ≤ 1) : x + c % 128 * 2 ^ (7 * i) ≤ 18446744073709551615 ∧ (i < 9 → x + c % 128 * 2 ^ (7 * i) < 2 ^ (7 * (i + 1))) := by
  have h1 : c % 128 * 2 ^ (7 * i) ≤ 127 * 2 ^ (7 * i) := Nat.mul_le_mul_right _ (by omega)
  have h2 : (2 : Nat) ^ (7 * (i + 1)) = 128 * 2 ^ (7 * i) := by rw [show 7 * (i + 1) = 7 * i + 7 by omega, Nat.pow_add]; omega
  rcases Nat.lt_or_ge i 9 with h | h
  · have h3 : (2 : Nat) ^ (7 * (i + 1)) ≤ 2 ^ 63 := Nat.pow_le_pow_right (by decide) (by omega)
    constructor
    · omega
    · intro _; omega
  · obtain rfl : i = 9 := by omega
    have := hc rfl
    have h4 : c % 128 * 2 ^ (7 * 9) ≤ 1 * 2 ^ (7 * 9) := Nat.mul_le_mul_right _ (by omega)
    exact ⟨by omega, fun h => by omega⟩
/-- the three results of a read at an offset -/
def vres (at_ : Nat) (r : Nat × Nat × Nat) : Ending := .returned (.tuple #[.int .u64 ((r.1 : Nat) : Int), .int .i64 (((if r.2.2 = 0 then at_ + r.2.1 else 0 : Nat)) : Int), .int .i64 ((r.2.2 : Nat) : Int)])

set_option maxHeartbeats 400000 in
theorem vget_bad (v : Value) (l : List Nat) (j : Int) (w : World) (h : Holds w v (u8s l)) (hj : j < 0 ∨ (l.length : Int) < j) :
    Calls Try.prog 38 #[v, .int .i64 j] w fun e w' => e = .returned (.tuple #[.int .u64 0, .int .i64 0, .int .i64 2]) ∧ w = w' := by
  obtain ⟨ad, cap, rfl, hc, _⟩ := h
  rw [u8s_length] at hc ⊢
  rcases hj with hj | hj
  · go_enter Try.func38, Try.ntmps38
    go_wp2
    go_ret3
    exact ⟨rfl, rfl⟩
  · have hj' : ¬ j < 0 := by omega
    go_enter Try.func38, Try.ntmps38
    go_wp2
    go_ret3
    exact ⟨rfl, rfl⟩

set_option maxRecDepth 100000 in
set_option maxHeartbeats 1000000 in
theorem vget_any (v : Value) (l : List Nat) (j : Nat) (w : World) (h : Holds w v (u8s l)) (hb : ∀ c ∈ l, c < 256) (hj : j ≤ l.length) (hl : l.length ≤ 140737488351232) :
    Calls Try.prog 38 #[v, .int .i64 j] w fun e w' => e = vres j (vgo 0 0 (l.drop j)) ∧ w = w' := by
  obtain ⟨i0, hi, hz0, hz1, hz2⟩ := info_parts infoU8
  obtain ⟨ad, cap, rfl, hc, hcells⟩ := h
  rw [u8s_length] at hc
  obtain ⟨a2, cap2, hsl, hh2, _⟩ := run_from (P := Try.prog) w 31 5 Try.underlying31 hi hz1 (⟨ad, cap, rfl, by rw [u8s_length]; exact hc, hcells⟩ : Holds w (.slice ad (u8s l).length cap) (u8s l)) .i64 j (by rw [u8s_length]; exact hj)
  rw [u8s_length] at hsl hh2 ⊢
  have hd : (u8s l).drop j = u8s (l.drop j) := by simp [u8s]
  rw [hd] at hh2
  have hbd : ∀ c ∈ l.drop j, c < 256 := fun c hc => hb c (List.mem_of_mem_drop hc)
  have hll : (l.drop j).length = l.length - j := by simp
  generalize hm : l.drop j = m at *
  rw [← hll] at hsl hh2
  have HH := Lib.hid hh2; have HB := Lib.hid hbd; have HM := Lib.hid hll
  have hj1 : ¬ (l.length : Int) < j := by omega
  clear hcells hd hbd hll hm hb hh2
  go_enter Try.func38, Try.ntmps38
  go_wp2
  go_loop [7, 22] (fun x c => ∃ k x' : Nat, k ≤ 9 ∧ k ≤ m.length ∧ x' < 2 ^ (7 * k) ∧ c = .int .i64 k ∧ x = .int .u64 (x' : Nat) ∧ vgo k x' (m.drop k) = vgo 0 0 m) (fun _ c => m.length - (intOf c).toNat)
  case atStart => exact ⟨0, 0, by omega, by omega, by omega, rfl, rfl, rfl⟩
  case round =>
    obtain ⟨k, x, hk9, hk, hx, rfl, rfl, hv⟩ := hrel
    by_cases hlt : k < m.length
    · obtain ⟨c, hck⟩ : ∃ c, m[k]? = some c := ⟨m[k], by simp [hlt]⟩
      obtain ⟨b, off, cap3, hv3, hcell⟩ := HH.out.index (j := k) (u := .int .u8 (c : Nat)) (u8s_get hck)
      simp only [Value.slice.injEq] at hv3
      obtain ⟨rfl, _, rfl⟩ := hv3
      have hdk : m.drop k = c :: m.drop (k + 1) := by rw [List.drop_eq_getElem_cons hlt]; congr 1; rw [List.getElem?_eq_getElem hlt] at hck; simpa using hck
      have hc256 : c < 256 := HB.out c (List.mem_of_getElem? hck)
      rw [hdk] at hv
      have HV := Lib.hid hv
      clear hv hdk hck
      by_cases h9 : k = 9 ∧ 1 < c
      · obtain ⟨rfl, h1c⟩ := h9
        rw [vgo_over x c _ h1c] at HV
        have hcg : (1 : Int) < c := by omega
        go_wp2
        go_ret3
        exact ⟨by rw [← HV.out]; rfl, rfl⟩
      · by_cases h0 : c = 0 ∧ 0 < k
        · obtain ⟨rfl, h0k⟩ := h0
          rw [vgo_min k x _ h0k] at HV
          have h0k' : (0 : Int) < k := by omega
          have h9' : ¬ ((k : Int) == 9) = true ∨ ¬ (1 : Int) < 0 := by omega
          clear h9'
          by_cases hk' : k = 9
          · subst hk'
            go_wp2
            go_ret3
            exact ⟨by rw [← HV.out]; rfl, rfl⟩
          · have hkb : ((k : Int) == 9) = false := by simp; omega
            go_wp2
            go_ret3
            exact ⟨by rw [← HV.out]; rfl, rfl⟩
        · obtain ⟨hb1, hb2⟩ := vgo_bound x k c hx hk9 (fun e => by omega)
          obtain ⟨s, hs⟩ : ∃ s, s = c % 128 := ⟨_, rfl⟩
          obtain ⟨z, hz⟩ : ∃ z, z = c % 128 * 2 ^ (7 * k) := ⟨_, rfl⟩
          have hor := vgo_acc x k z c hx hz (by rw [hz]; exact hb1)
          have hs1 : (c : Int) % 128 = s := by omega
          have hs2 : (c : Int).tmod 128 = s := by rw [Int.tmod_eq_emod_of_nonneg (by omega)]; omega
          have hw7 : IntKind.i64.wrap (7 * (k : Int)) = 7 * k := IntWalk.i64_in _ (by omega)
          obtain ⟨q, hq⟩ : ∃ q, q = 7 * k := ⟨_, rfl⟩
          have hq1 : 7 * (k : Int) = q := by omega
          have hq2 : IntKind.i64.wrap (q : Int) = q := wrap_nat _ (by omega)
          have hq64 : q ≤ 63 := by omega
          have hzz : IntKind.u64.wrap ((s : Int) * 2 ^ q) = z := by
            have e : ((s : Int) * 2 ^ q) = ((s * 2 ^ q : Nat) : Int) := by simp
            rw [e, hs, hq, ← hz]
            exact IntWalk.u64_in _ (by omega)
          have hjk : IntKind.i64.wrap ((j : Int) + k) = j + k := IntWalk.i64_in _ (by have := HM.out; omega)
          have hjk1 : IntKind.i64.wrap ((j : Int) + k + 1) = j + k + 1 := IntWalk.i64_in _ (by have := HM.out; omega)
          have hs128 : s < 128 := by omega
          have Hs := Lib.hid hs; have Hz := Lib.hid hz; have Hq := Lib.hid hq; have Hb1 := Lib.hid hb1; have Hb2 := Lib.hid hb2; have Hx := Lib.hid hx
          clear hs hz hq hb1 hb2 hx
          have hcases : ((((k : Int) == 9) = true ∧ ¬ (1 : Int) < c ∧ ((c : Int) == 0) = false)) ∨ (((k : Int) == 9) = false ∧ ((c : Int) == 0) = false) ∨ (((k : Int) == 9) = false ∧ ((c : Int) == 0) = true ∧ ¬ (0 : Int) < k) := by
            simp only [beq_iff_eq, beq_eq_false_iff_ne, ne_eq]
            omega
          by_cases hc128 : c < 128
          · have hend := vgo_end k x c (m.drop (k + 1)) h9 h0 hc128
            rw [← Hz.out] at hend
            have HE := Lib.hid (HV.out.symm.trans hend)
            have hcg : (c : Int) < 128 := by omega
            clear hend h9 h0
            rcases hcases with ⟨hk1, hc1, hc2⟩ | ⟨hk1, hc2⟩ | ⟨hk1, hc2, hk2⟩
            all_goals
              go_wp2
              go_ret3
              refine ⟨?_, rfl⟩
              rw [HE.out]
              simp only [vres, if_true]
              congr 4
          · have hstep := vgo_step k x c (m.drop (k + 1)) h9 h0 hc128
            rw [← Hz.out] at hstep
            have HE := Lib.hid (hstep.symm.trans HV.out)
            have hcg : ¬ (c : Int) < 128 := by omega
            have hk8 : k < 9 := by omega
            clear hstep h9 h0
            rcases hcases with ⟨hk1, hc1, hc2⟩ | ⟨hk1, hc2⟩ | ⟨hk1, hc2, hk2⟩
            · exact absurd (by simpa using hk1 : (k : Int) = 9) (by omega)
            · go_wp2
              refine ⟨⟨k + 1, x + z, by omega, by omega, by rw [Hz.out]; exact Hb2.out hk8, by go_num, by go_num, HE.out⟩, by simp [intOf]; omega⟩
            · exact absurd (by simpa using hc2 : (c : Int) = 0) (by omega)
    · have hke : k = m.length := by omega
      have hv0 : vgo 0 0 m = (0, 0, 3) := by rw [← hv, hke, List.drop_length]; rfl
      have HV0 := Lib.hid hv0
      clear hv hv0 hke
      go_wp2
      go_ret3
      exact ⟨by rw [HV0.out]; rfl, rfl⟩

set_option maxHeartbeats 400000 in
theorem rget_bad (v : Value) (l : List Nat) (j : Int) (w : World) (h : Holds w v (u8s l)) (hj : j < 0 ∨ (l.length : Int) < j) :
    Calls Try.prog 40 #[v, .int .i64 j] w fun e w' => e = .returned (.tuple #[.int .u64 0, .int .i64 0, .int .i64 2]) ∧ w = w' := by
  obtain ⟨ad, cap, rfl, hc, _⟩ := h
  rw [u8s_length] at hc ⊢
  rcases hj with hj | hj
  · go_enter Try.func40, Try.ntmps40
    go_wp2
    go_ret3
    exact ⟨rfl, rfl⟩
  · have hj' : ¬ j < 0 := by omega
    go_enter Try.func40, Try.ntmps40
    go_wp2
    go_ret3
    exact ⟨rfl, rfl⟩

set_option maxRecDepth 100000 in
set_option maxHeartbeats 1000000 in
theorem rget_any (v : Value) (l : List Nat) (j : Nat) (w : World) (h : Holds w v (u8s l)) (hb : ∀ c ∈ l, c < 256) (hj : j ≤ l.length) (hl : l.length ≤ 140737488351232) :
    Calls Try.prog 40 #[v, .int .i64 j] w fun e w' => e = vres j (vgo 0 0 (l.drop j)) ∧ w = w' := by
  have HH := Lib.hid h
  obtain ⟨ad, cap, rfl, hc, hcells⟩ := h
  rw [u8s_length] at hc ⊢ HH
  have hll : (l.drop j).length = l.length - j := by simp
  have HB := Lib.hid hb
  have hj1 : ¬ (l.length : Int) < j := by omega
  clear hcells hb
  go_enter Try.func40, Try.ntmps40
  go_wp2
  go_loop [7, 8, 9] (fun x u c => ∃ k x' : Nat, k ≤ 9 ∧ j + k ≤ l.length ∧ x' < 2 ^ (7 * k) ∧ c = .int .i64 k ∧ x = .int .u64 (x' : Nat) ∧ u = .int .u64 ((2 ^ (7 * k) : Nat) : Int) ∧ vgo k x' (l.drop (j + k)) = vgo 0 0 (l.drop j)) (fun _ _ c => l.length - (intOf c).toNat)
  case atStart => exact ⟨0, 0, by omega, by omega, by omega, rfl, rfl, rfl, rfl⟩
  case round =>
    obtain ⟨k, x, hk9, hk, hx, rfl, rfl, rfl, hv⟩ := hrel
    have hjk : IntKind.i64.wrap ((j : Int) + k) = j + k := IntWalk.i64_in _ (by omega)
    by_cases hlt : j + k < l.length
    · obtain ⟨c, hck⟩ : ∃ c, l[j + k]? = some c := ⟨l[j + k], by simp [hlt]⟩
      obtain ⟨b, off, cap3, hv3, hcell⟩ := HH.out.index (j := j + k) (u := .int .u8 (c : Nat)) (u8s_get hck)
      simp only [Value.slice.injEq] at hv3
      obtain ⟨rfl, _, rfl⟩ := hv3
      have hdk : l.drop (j + k) = c :: l.drop (j + k + 1) := by rw [List.drop_eq_getElem_cons hlt]; congr 1; rw [List.getElem?_eq_getElem hlt] at hck; simpa using hck
      have hc256 : c < 256 := HB.out c (List.mem_of_getElem? hck)
      rw [hdk] at hv
      have HV := Lib.hid hv
      have hltI : ¬ (l.length : Int) ≤ (j : Int) + k := by omega
      have hltI2 : (j : Int) + k < l.length := by omega
      obtain ⟨u, hu⟩ : ∃ u, u = 2 ^ (7 * k) := ⟨_, rfl⟩
      rw [← hu]
      have HU := Lib.hid hu
      clear hv hdk hck hu
      by_cases h9 : k = 9 ∧ 1 < c
      · obtain ⟨hk9', h1c⟩ := h9
        rw [hk9', vgo_over x c _ h1c] at HV
        have hcg : (1 : Int) < c := by omega
        have hkb : ((k : Int) == 9) = true := by simp; omega
        clear hk9'
        go_wp2
        go_ret3
        exact ⟨by rw [← HV.out]; rfl, rfl⟩
      · obtain ⟨hb1, hb2⟩ : (k = 9 → c ≤ 1) ∧ True := ⟨fun e => by omega, trivial⟩
        obtain ⟨hb1, hb2⟩ := vgo_bound x k c hx hk9 hb1
        obtain ⟨s, hs⟩ : ∃ s, s = c % 128 := ⟨_, rfl⟩
        obtain ⟨z, hz⟩ : ∃ z, z = c % 128 * 2 ^ (7 * k) := ⟨_, rfl⟩
        obtain ⟨y, hy⟩ : ∃ y, y = x + z := ⟨_, rfl⟩
        have hs1 : (c : Int) % 128 = s := by omega
        have hs2 : (c : Int).tmod 128 = s := by rw [Int.tmod_eq_emod_of_nonneg (by omega)]; omega
        have hzz : IntKind.u64.wrap ((s : Int) * u) = z := by
          rw [hz, hs, HU.out]
          have e : (((c % 128 : Nat) : Int) * ((2 ^ (7 * k) : Nat) : Int)) = ((c % 128 * 2 ^ (7 * k) : Nat) : Int) := by simp
          rw [e]
          exact IntWalk.u64_in _ (by omega)
        have hyy : IntKind.u64.wrap ((x : Int) + z) = y := by rw [hy, IntWalk.u64_in _ (by omega)]; omega
        have hjk1 : IntKind.i64.wrap ((j : Int) + k + 1) = j + k + 1 := IntWalk.i64_in _ (by omega)
        have hs128 : s < 128 := by omega
        have Hs := Lib.hid hs; have Hz := Lib.hid hz; have Hy := Lib.hid hy; have Hb1 := Lib.hid hb1; have Hb2 := Lib.hid hb2; have Hx := Lib.hid hx
        have H9 := Lib.hid h9
        clear hs hz hy hb1 hb2 hx
        by_cases hc128 : c < 128
        · have hcg : (c : Int) < 128 := by omega
          by_cases h0 : c = 0 ∧ 0 < k
          · have hm5 := vgo_min k x (l.drop (j + k + 1)) h0.2
            have HE : Hid (vgo 0 0 (l.drop j) = (0, 0, 5)) := Lib.hid (by rw [← hm5, ← HV.out, h0.1])
            have hcb : ((c : Int) == 0) = true := by simp; omega
            have hk0 : (0 : Int) < k := by omega
            have hc1 : ¬ (1 : Int) < c := by omega
            clear hm5 h9 h0
            by_cases hk' : k = 9
            · have hkb : ((k : Int) == 9) = true := by simp; omega
              clear hk'
              go_wp2
              go_ret3
              exact ⟨by rw [HE.out]; rfl, rfl⟩
            · have hkb : ((k : Int) == 9) = false := by simp; omega
              clear hk'
              go_wp2
              go_ret3
              exact ⟨by rw [HE.out]; rfl, rfl⟩
          · have hend := vgo_end k x c (l.drop (j + k + 1)) h9 h0 hc128
            rw [← Hz.out, ← Hy.out] at hend
            have HE := Lib.hid (HV.out.symm.trans hend)
            have hcases : ((((k : Int) == 9) = true ∧ ¬ (1 : Int) < c ∧ ((c : Int) == 0) = false)) ∨ (((k : Int) == 9) = false ∧ ((c : Int) == 0) = false) ∨ (((k : Int) == 9) = false ∧ ((c : Int) == 0) = true ∧ ¬ (0 : Int) < k) := by
              simp only [beq_iff_eq, beq_eq_false_iff_ne, ne_eq]
              omega
            clear hend h9 h0
            rcases hcases with ⟨hk1, hc1, hc2⟩ | ⟨hk1, hc2⟩ | ⟨hk1, hc2, hk2⟩
            all_goals
              go_wp2
              go_ret3
              refine ⟨?_, rfl⟩
              rw [HE.out]
              simp only [vres, if_true]
              congr 4
        · have hk8 : k < 9 := by omega
          have h0 : ¬ (c = 0 ∧ 0 < k) := by omega
          have hstep := vgo_step k x c (l.drop (j + k + 1)) h9 h0 hc128
          rw [← Hz.out, ← Hy.out] at hstep
          have HE := Lib.hid (hstep.symm.trans HV.out)
          have hcg : ¬ (c : Int) < 128 := by omega
          have hkb : ((k : Int) == 9) = false := by simp; omega
          have hp : 2 ^ (7 * k) ≤ 2 ^ 56 := Nat.pow_le_pow_right (by decide) (by omega)
          have hp2 : 2 ^ (7 * (k + 1)) = 2 ^ (7 * k) * 128 := by rw [show 7 * (k + 1) = 7 * k + 7 by omega, Nat.pow_add]
          rw [← HU.out] at hp hp2
          have hwu : IntKind.u64.wrap ((u : Int) * 128) = ((u * 128 : Nat) : Int) := by rw [IntWalk.u64_in _ (by omega)]; omega
          have Hp2 := Lib.hid hp2
          clear hstep h9 h0 hp hp2
          go_wp2
          refine ⟨⟨k + 1, y, by omega, by omega, by rw [Hy.out, Hz.out]; exact Hb2.out hk8, by go_num, rfl, by rw [Hp2.out]; go_num, by rw [← HE.out]; rfl⟩, by simp [intOf]; omega⟩
    · have hke : l.drop (j + k) = [] := List.drop_eq_nil_of_le (by omega)
      have hv0 : vgo 0 0 (l.drop j) = (0, 0, 3) := by rw [← hv, hke]; rfl
      have hltI : (l.length : Int) ≤ (j : Int) + k := by omega
      have HV0 := Lib.hid hv0
      clear hv hv0 hke
      go_wp2
      go_ret3
      exact ⟨by rw [HV0.out]; rfl, rfl⟩
end Go.Proofs.Ytdniaingipoggaa
