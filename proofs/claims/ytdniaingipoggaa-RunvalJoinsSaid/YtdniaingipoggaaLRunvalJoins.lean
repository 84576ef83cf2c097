/-
  'tsblocklaw07.RunvalJoins' returns true for every list of Runs. No condition.
-/
import Derived.Test.YtdniaingipoggaaWLaw07g
import Derived.Test.YtdniaingipoggaaPArgs
import Derived.ChangeOld
namespace Go.Proofs.Ytdniaingipoggaa.runvalJoins
open Go.ChangeShapes Go.WideShapes Go.ChangeAt Go.RowKit

theorem own : ownKnob Try.prog.godebug = none := by kernel_rfl
theorem laidOut : laidOutB Try.prog = true := by kernel_rfl

set_option maxRecDepth 100000 in
theorem lifted (os : Os) (started : os.Started) (H : Type) (enc : TypeId × Value → H) :
    ReturnsInHanded {} Try.checked os 20 .any (Rows.runvalJoinsSpec.pre6 enc Try.prog Try.f20 Rows.runvalJoinsRow.domain false) (Rows.runvalJoinsSpec.post enc Try.prog Try.f20 false true false false) := by
  refine returnsInHanded_of_change (C := Try.checked) own started (by kernel_rfl) Try.func20
    (ChangeSpec.witness6 (enc := enc) (C := Try.checked) false ⟨#[], #[.slice none 0 0], []⟩ 8 (by kernel_rfl) (by kernel_rfl) (by kernel_rfl) (by kernel_rfl)) ?_
  intro W base args ds gs before hval0 hW hcnd _
  have hval : ∀ (j : Nat) t v, Try.f20.params[j]? = some t → args[j]? = some v → Value.okWide Try.prog W .any base t v := hval0
  have hW' := hW
  obtain ⟨p, q, hA0, hV, rfl, hfz, hnd⟩ := hW
  have hA : DataW.TrodAll enc Try.prog W 0 (fun _ => true) true Try.f20.params.toList args.toList ds p := hA0
  rw [Try.params20] at hA hval
  obtain ⟨v0, vs0, d0, ds0, p0, q0, hargs, rfl, rfl, hr0, r0⟩ := trodAll_cons hA
  obtain ⟨rfl, rfl, rfl⟩ := trodAll_nil r0
  obtain rfl : args = #[v0] := by cases args; simp_all
  obtain ⟨rfl, rfl⟩ := trodVars_none hV
  have k0 := hr0
  have lt0 : ∀ x ∈ p0, x.block < W.heap.size := by obtain ⟨m, hm⟩ := k0; exact DataW.trod_lt m _ _ _ hm
  obtain ⟨a0, len0, cap0, rfl⟩ := okWide_slice Try.underlying95 (hval 0 95 v0 rfl rfl)
  obtain ⟨l0, h0, c0⟩ : ∃ fs, HoldsF W W.heap.size (.slice a0 len0 cap0) fs ∧ ∀ f ∈ fs, f.1 ≤ 18446744073709551615 := by
    obtain ⟨fuel, hf⟩ := hr0
    exact holdsF_open (open_pairs Try.underlying95 Try.underlying96 (by kernel_rfl) (by kernel_rfl) Try.underlying35 Try.underlying3 (fun _ => rfl) hf)
  clear hA0 hval0
  refine (runvalJoins_any _ l0 W (holdsF_P h0)).mono fun e W' ⟨he, hk⟩ => ?_
  have bel := hk.belowAll
  subst he
  exact ⟨_, rfl, _, _, _, [], _, [], hW', trodAll_mk1 (shut_bool Try.underlying4 _), (trodAll_cons_mk (Below.trod laidOut (by kernel_rfl) (of_decide_eq_true (by kernel_rfl)) k0 bel lt0) trodAll_mk0), rfl, bel.frame _, fun h => by cases h⟩

theorem over : Rows.runvalJoinsRow.holds Try.pinned (OpenSpec.ofChange Rows.runvalJoinsSpec) :=
  OpenClaim.holds_of_wide 20 Try.f20 rfl rfl rfl rfl rfl rfl rfl ⟨rfl, rfl, rfl, rfl, rfl⟩ rfl rfl rfl rfl rfl (by kernel_rfl) Try.func20 (by kernel_rfl)
    (of_decide_eq_true (by kernel_rfl)) (by unfold Func.isWrapper; first | (rw [if_pos (by decide +kernel)]; kernel_rfl) | (rw [if_neg (by decide +kernel)]; exact ⟨rfl, rfl⟩))
    (fun os started H enc _ => lifted os started H enc)

theorem proved : Rows.RunvalJoinsSaid := over
#print axioms proved
end Go.Proofs.Ytdniaingipoggaa.runvalJoins
