/- What Near answers, in plain words. -/
import Derived.Test.YtgblbhbmeflckaaNear2
import Derived.Test.YtgblbhbmeflckaaPNear
namespace Go.Proofs.Ytgblbhbmeflckaa
open Go.RowKit Go.Lib St Fl
set_option linter.unusedVariables false
set_option linter.unusedSimpArgs false
theorem nums_lt (n : Nat) : (nums n).Pairwise (· < ·) := by
  unfold nums
  rw [List.pairwise_map]
  exact List.pairwise_lt_range.imp fun h => Int.ofNat_lt.2 h
theorem nearL_len (zr zi : Nat) (re im : Nat → Nat) (n : Nat) : (nearL zr zi re im n).length = n := by
  unfold nearL
  rw [isort_len]
  simp [nums]
theorem nearL_mem (zr zi : Nat) (re im : Nat → Nat) (n : Nat) (x : Int) : x ∈ nearL zr zi re im n ↔ ∃ k : Nat, k < n ∧ x = k := by
  unfold nearL
  rw [isort_mem']
  unfold nums
  rw [List.mem_map]
  constructor
  · rintro ⟨k, hk, rfl⟩; exact ⟨k, List.mem_range.1 hk, rfl⟩
  · rintro ⟨k, hk, rfl⟩; exact ⟨k, List.mem_range.2 hk, rfl⟩
theorem nearL_ahead (zr zi : Nat) (re im : Nat → Nat) (n : Nat) : (nearL zr zi re im n).Pairwise fun x y => farZ zr zi re im x < farZ zr zi re im y ∨ (farZ zr zi re im x ≤ farZ zr zi re im y ∧ x < y) := by
  refine (isort_ahead (swo_cmpZ (farZ zr zi re im)) (nums n) (nums_lt n)).imp fun {x y} h => ?_
  rcases h with h | ⟨h, h2⟩
  · rw [ltf_cmpZ] at h; exact Or.inl (of_decide_eq_true h)
  · rw [ltf_cmpZ] at h; have := of_decide_eq_false h; exact Or.inr ⟨by omega, h2⟩
end Go.Proofs.Ytgblbhbmeflckaa
