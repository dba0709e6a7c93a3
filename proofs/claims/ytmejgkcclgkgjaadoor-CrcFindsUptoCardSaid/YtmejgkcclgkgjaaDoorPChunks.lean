/- Plain laws of cutting a text into pieces. -/
import Derived.Test.YtmejgkcclgkgjaaDoorPCrc
namespace Go.Proofs.YtmejgkcclgkgjaaDoor.Chk
set_option linter.unusedVariables false
set_option linter.unusedSimpArgs false
/-- The pieces of m + 1 elements each. -/
def chunks (m : Nat) : List UInt8 → List (List UInt8)
  | [] => []
  | x :: l => (x :: l.take m) :: chunks m (l.drop m)
termination_by l => l.length
decreasing_by simp; omega
theorem chunks_nil (m : Nat) : chunks m [] = [] := by rw [chunks]
theorem chunks_ne (m : Nat) {l : List UInt8} (h : l ≠ []) : chunks m l = l.take (m + 1) :: chunks m (l.drop (m + 1)) := by
  cases l with
  | nil => exact absurd rfl h
  | cons x l => rw [chunks]; rfl
theorem chunks_lt (m : Nat) {l : List UInt8} (h : l ≠ []) : 0 < (chunks m l).length := by rw [chunks_ne m h]; simp
theorem chunks_len (m : Nat) : ∀ (n : Nat) (l : List UInt8), l.length ≤ n → (chunks m l).length ≤ l.length
  | n, [], _ => by rw [chunks_nil]; simp
  | 0, x :: l, h => by simp at h
  | n + 1, x :: l, h => by
    rw [chunks]
    have := chunks_len m n (l.drop m) (by simp at h ⊢; omega)
    simp at this ⊢; omega
def sums (m : Nat) (l : List UInt8) : List Nat := (chunks m l).map (Crc.ext 0)
theorem sums_len (m : Nat) (l : List UInt8) : (sums m l).length ≤ l.length := by unfold sums; rw [List.length_map]; exact chunks_len m _ l (Nat.le_refl _)
theorem sums_lt (m : Nat) (l : List UInt8) : ∀ x ∈ sums m l, x < 4294967296 := by
  intro x hx
  obtain ⟨c, _, rfl⟩ := List.mem_map.1 hx
  exact Crc.ext_lt (by decide) c
end Go.Proofs.YtmejgkcclgkgjaaDoor.Chk
