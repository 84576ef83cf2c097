/-
  PLAIN: how long a slice of the input may be (the statement's own bound on what memory bears).
-/
import Derived.Test.YtdniaingipoggaaPArgs
import Derived.Deep.Slices
import Derived.SizedLaws
namespace Go.Proofs.Ytdniaingipoggaa
open Go.ChangeShapes Go.WideShapes Go.ChangeAt Go.RowKit

theorem Holds.len {w : World} {a : Option Addr} {len cap : Nat} {xs : List Value} (h : Holds w (.slice a len cap) xs) : xs.length = len := by
  obtain ⟨_, _, hv, _⟩ := h
  simp only [Value.slice.injEq] at hv
  exact hv.2.1.symm
section
variable {H : Type} {enc : TypeId × Value → H} {P : Program} {w : World} {base : Nat} {spare : Nat → Bool} {held : Bool}
theorem sized_len {t e : TypeId} {a : Option Addr} {len cap : Nat} {xs : List Value} {d : DataW H} {p : List MemPlace} {ts : List TypeId} {ds : List (DataW H)} (k j : Nat) (ht : P.underlying t = some (.slice e)) (hk : P.bytesOf e = k)
    (hsz : (DataW.weightsEach P ts ds).all (· ≤ reachBytes) = true) (htj : ts[j]? = some t) (hdj : ds[j]? = some d)
    (h : DataW.Trod enc P w base spare held t (.slice a len cap) d p) (hh : Holds w (.slice a len cap) xs) : xs.length * k ≤ 140737488351232 := by
  obtain ⟨fuel, hf⟩ := h
  rw [hh.len]
  rcases Deep.open_slice ht hf with ⟨hcs, _⟩ | ⟨a', l, c, m, n, D, Pl, hcs, _, _, _, _, hx, _⟩
  · simp [Value.cells] at hcs
    obtain ⟨_, rfl, _⟩ := hcs
    omega
  · simp [Value.cells] at hcs
    obtain ⟨_, rfl, _⟩ := hcs
    have hd : d = .slice ((List.range len).map D) ((List.range (m - len)).map fun j => D (len + j)) := congrArg Prod.fst hx
    subst hd
    have := sized_slice hsz htj hdj ht
    rw [hk, List.length_map, List.length_range] at this
    have h2 : reachBytes = 140737488351232 := rfl
    rw [h2] at this
    exact Nat.le_trans (Nat.mul_le_mul_right _ (Nat.le_add_right _ _)) this
end
end Go.Proofs.Ytdniaingipoggaa
