/-
  WALKS: VarintIsCanonical.
-/
import Derived.Test.YtdniaingipoggaaWLaw02c
import Derived.WalkKit
import Derived.WalkSpells
import Derived.WalkLawsBesides
import Derived.Lib.Hide
import Derived.Deep.RegionHeld3
import Derived.Deep.DrawnRows
namespace Go.Proofs.Ytdniaingipoggaa
open Go.RowKit
attribute [local go_sem ↓] Go.wp_at_zero Go.wp_at_succ

theorem run_part_all {P : Program} (w : World) (t e : TypeId) (ht : P.underlying t = some (.slice e)) {i : TypeInfo} (hi : P.info? e = some i) (hz : i.size = 1) {a : Option Addr} {len cap : Nat} {xs : List Value} (h : Holds w (.slice a len cap) xs) (k k' : IntKind) (lo hi' : Nat) (h0 : lo ≤ hi') (h1 : hi' ≤ xs.length) :
    ∃ a2 cap2, (∀ w, (Instr.sliceAt t (.slice a len cap) (some (.int k (lo : Nat))) (some (.int k' (hi' : Nat))) none).run P w = .ok (.slice a2 (hi' - lo) cap2) w) ∧ Holds w (.slice a2 (hi' - lo) cap2) ((xs.take hi').drop lo) := by
  obtain ⟨a2, cap2, e1, e2, e3⟩ := sliced_holds w h lo hi' h0 h1
  have hcap : hi' ≤ cap := by
    obtain ⟨ad, cap', hv, hc, _⟩ := h
    simp only [Value.slice.injEq] at hv
    omega
  refine ⟨a2, cap2, fun w' => ?_, e2⟩
  have hel : P.elem t = e := by simp [Program.elem, ht]
  have ht' : P.underlying t = some (.slice (P.elem t)) := by rw [hel]; exact ht
  rw [run_sliceAt_slice (P := P) w' t _ _ _ _ ht', run_slice_lh (P := P) w' t a len cap ht' k k' lo hi' (by omega) (by omega) (by omega), hel]
  simp [sizeOf, typeInfo, hi, hz, e1, Result.andThen]
set_option maxRecDepth 100000 in
set_option maxHeartbeats 10000000 in
theorem varintIsCanonical_any (v : Value) (l : List Nat) (n : Nat) (w : World) (h : Holds w v (u8s l)) (hb : ∀ c ∈ l, c < 256) (hn : n < 256) :
    Calls Try.prog 9 #[v, .int .u8 n] w fun e w' => e = .returned (.bool true) ∧ Keeps (fun _ => False) w w' := by
  obtain ⟨i0, hi, hz0, hz1, hz2⟩ := info_parts infoU8
  have HH := Lib.hid h; have HB := Lib.hid hb
  obtain ⟨ad, cap, rfl, hc, hcells⟩ := h
  rw [u8s_length] at hc ⊢ HH
  clear hcells hb
  by_cases hl : l.length ≤ 5000
  · obtain ⟨k, hk⟩ : ∃ k, k = n % (l.length + 1) := ⟨_, rfl⟩
    have hkl : k ≤ l.length := by rw [hk]; have := Nat.mod_lt n (show 0 < l.length + 1 by omega); omega
    obtain ⟨M, hM⟩ : ∃ M, M = l.length + 1 := ⟨_, rfl⟩
    have e1 : IntKind.i64.wrap ((l.length : Int) + 1) = (M : Int) := by rw [IntWalk.i64_in] <;> omega
    have e2 : (n : Int).tmod (M : Int) = (k : Nat) := by rw [hk, hM, Int.tmod_eq_emod_of_nonneg (by omega)]; norm_cast
    have e3 : (n : Int) % (M : Int) = (k : Nat) := by rw [hk, hM]; norm_cast
    have n1 : ¬ (M : Int) = 0 := by omega
    have HK := Lib.hid hk; have HM := Lib.hid hM
    clear hk hM
    have hcan := vgo_canon (l.drop k) (fun c hc => HB.out c (List.mem_of_mem_drop hc)) 0 0
    have herr := vgo_err (l.drop k) 0 0
    have hle := vgo_le (l.drop k) 0 0 (by omega) (by omega)
    obtain ⟨N, cnt, er, hg⟩ : ∃ (N cnt er : Nat), vgo 0 0 (l.drop k) = (N, cnt, er) := ⟨_, _, _, rfl⟩
    rw [hg] at herr hle
    simp only at herr hle
    have HG := Lib.hid hg
    by_cases her : er = 0
    · subst her
      clear herr
      obtain ⟨y, hc0, hc1, hc2, hc3, _, _, _⟩ := hcan N cnt (by omega) hg
      rw [List.length_drop] at hc1
      have hNy : N = y := by rw [hc3]; simp
      have hq : k + cnt ≤ l.length := by omega
      obtain ⟨q, hqe⟩ : ∃ q, q = k + cnt := ⟨_, rfl⟩
      have hv : vres k (vgo 0 0 (l.drop k)) = .returned (.tuple #[.int .u64 (N : Nat), .int .i64 (q : Nat), .int .i64 0]) := by rw [hg, hqe]; simp [vres]
      have hys : venc N = (l.take q).drop k := by
        rw [hNy, hqe, List.drop_take, Nat.add_sub_cancel_left]
        exact hc2.trans (by rw [Nat.sub_zero])
      obtain ⟨a2, cap2, hsl, hh2⟩ := run_part_all (P := Try.prog) w 31 5 Try.underlying31 hi hz1 HH.out .i64 .i64 k q (by omega) (by rw [u8s_length]; omega)
      have hh3 : Holds w (.slice a2 (q - k) cap2) (u8s (venc N)) := by
        rw [hys]
        have e9 : ((u8s l).take q).drop k = u8s ((l.take q).drop k) := by simp [u8s]
        rw [← e9]; exact hh2
      have HV := Lib.hid hv; have H3 := Lib.hid hh3
      have HL := Lib.hid (venc_lt N hle)
      have o1 : (k : Int) < (q : Int) := by omega
      have o2 : (q : Int) ≤ (l.length : Int) := by omega
      have o3 : ¬ (q : Int) < (k : Int) := by omega
      have o4 : ¬ (l.length : Int) < (q : Int) := by omega
      have o5 : (0 : Int) ≤ (k : Int) := by omega
      have o6 : (k : Int) ≤ (q : Int) := by omega
      have o7 : (q : Int) ≤ (cap : Int) := by omega
      have o8 : (0 : Int) ≤ (q : Int) := by omega
      have o9 : max (q : Int) (k : Int) = q := by omega
      have o10 : min (q : Int) (l.length : Int) = q := by omega
      clear hv hh2 hh3 hcan hg hc0 hc1 hc2 hc3 hNy hq hqe hys
      go_enter Try.func9, Try.ntmps9
      go_wp2_with fail
      refine (vget_any _ l k w HH.out HB.out hkl (by omega)).mono ?_
      rw [HV.out]
      rintro e w1 ⟨rfl, rfl⟩
      go_wp2_with fail
      clear HV e1 e2 e3 n1 HK HM hkl hl hn hc HB i0 hi hz0 hz1 hz2 HG
      go_region_held3 (fun _ => True) (trivial) (first
        | (go_at_call 37; go_must (refine (alive02_any _).mono ?_; rintro e wa ⟨rfl, ka⟩; have KA := Lib.hid ka; clear ka))
        | (go_at_call 39; go_must (refine (refEncode_any 9 N _ (by omega) (by omega) hle).mono ?_; rintro e wb ⟨vb, rfl, hb, kb⟩; have KB := Lib.hid kb; have RB := Lib.hid hb; clear hb kb))
        | (go_at_call 25; go_must (refine (bytesEqual_any _ _ (venc N) (venc N) _ (holds_row RB.out) (((H3.out.keeps (Keeps.refl (fun _ => False) w).drew (fun _ _ h => h)).keeps KA.out (fun _ _ h => h)).keeps KB.out (fun _ _ h => h)) HL.out HL.out).mono ?_; rintro e wc ⟨rfl, rfl⟩)))
      all_goals
        go_wp2
        go_ret
        exact ⟨by simp, ((Keeps.refl (fun _ => False) w).drew.false_trans KA.out).false_trans KB.out⟩
    · obtain ⟨rfl, rfl⟩ := herr her
      have hv : vres k (vgo 0 0 (l.drop k)) = .returned (.tuple #[.int .u64 0, .int .i64 0, .int .i64 (er : Nat)]) := by rw [hg]; simp [vres, her]
      have HV := Lib.hid hv
      clear hv hg hcan herr
      have her' : ¬ (er : Int) = 0 := by omega
      go_enter Try.func9, Try.ntmps9
      go_wp2_with fail
      refine (vget_any _ l k w HH.out HB.out hkl (by omega)).mono ?_
      rw [HV.out]
      rintro e w1 ⟨rfl, rfl⟩
      go_wp2_with fail
      refine (alive02_any w).mono ?_
      rintro e w1 ⟨rfl, k1⟩
      go_wp2
      go_ret
      exact ⟨by simp, k1⟩
  · have hl' : 5000 < (l.length : Int) := by omega
    go_enter Try.func9, Try.ntmps9
    go_wp2_with fail
    refine (alive02_any w).mono ?_
    rintro e w1 ⟨rfl, k1⟩
    go_wp2
    go_ret
    exact ⟨rfl, k1⟩
end Go.Proofs.Ytdniaingipoggaa
