/-
  WALKS: VarintPrefixes.
-/
import Derived.Test.YtdniaingipoggaaWLaw02a
import Derived.Test.YtdniaingipoggaaPVar2
import Derived.WalkKit
import Derived.WalkSpells
import Derived.WalkLawsBesides
import Derived.Lib.Hide
namespace Go.Proofs.Ytdniaingipoggaa
open Go.RowKit

set_option maxRecDepth 100000 in
set_option maxHeartbeats 1000000 in
theorem varintPrefixes_any (X : Nat) (w : World) (hX : X ≤ 18446744073709551615) :
    Calls Try.prog 10 #[.int .u64 X] w fun e w' => e = .returned (.bool true) ∧ Keeps (fun _ => False) w w' := by
  obtain ⟨i0, hi, hz0, hz1, hz2⟩ := info_parts infoU8
  go_enter Try.func10, Try.ntmps10
  go_wp2_with fail
  refine (refEncode_any 9 X w (by omega) (by omega) hX).mono ?_
  rintro e w1 ⟨v1, rfl, h1, k1⟩
  have hpre := fun k hk => vgo_prefix 9 X 0 0 k (by omega) hk
  have hlt := vencF_lt 9 X (by omega)
  have hle := vencF_length 9 X
  generalize vencF 9 X = ys at *
  obtain ⟨ad, cap, rfl⟩ := row_slice h1
  have HR := Lib.hid (holds_row h1); have K1 := Lib.hid k1; have HP := Lib.hid hpre; have HL := Lib.hid hlt
  clear h1 k1 hpre hlt
  go_wp2_with fail
  go_loop [12] (fun c => ∃ k : Nat, k ≤ ys.length ∧ c = .int .i64 k) (fun c => ys.length - (intOf c).toNat)
  case atStart => exact ⟨0, by omega, rfl⟩
  case round =>
    obtain ⟨k, hk, rfl⟩ := hrel
    by_cases hlt : k < ys.length
    · have hh := HR.out
      rw [← u8s_length] at hh
      obtain ⟨a2, cap2, hsl, hh2, _⟩ := run_to (P := Try.prog) w1 31 5 Try.underlying31 hi hz1 hh .i64 k (by rw [u8s_length]; omega)
      rw [u8s_length] at hsl
      have e1 : (u8s ys).take k = u8s (ys.take k) := by simp [u8s]
      rw [e1] at hh2
      have hv := HP.out k hlt
      have HV := Lib.hid hv; have HH2 := Lib.hid hh2
      clear hv hh2 e1 hh
      go_wp2_with fail
      refine (vget_any _ (ys.take k) 0 w1 HH2.out (fun c hc => HL.out c (List.mem_of_mem_take hc)) (Nat.zero_le _) (by rw [List.length_take]; omega)).mono ?_
      rw [List.drop_zero, HV.out]
      rintro e w2 ⟨rfl, rfl⟩
      simp only [vres]
      go_wp2_with fail
      exact ⟨⟨k + 1, by omega, by go_num⟩, by simp [intOf]; omega⟩
    · go_wp2_with fail
      refine (alive02_any w1).mono ?_
      rintro e w2 ⟨rfl, k2⟩
      go_wp2
      go_ret
      exact ⟨rfl, K1.out.false_trans k2⟩
end Go.Proofs.Ytdniaingipoggaa
