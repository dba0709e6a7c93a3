/- The first place where two lists differ. -/
import Derived.Test.YtmejgkcclgkgjaaDoorPChunks
namespace Go.Proofs.YtmejgkcclgkgjaaDoor.Chk
set_option linter.unusedVariables false
set_option linter.unusedSimpArgs false
def common : List Nat → List Nat → Nat
  | x :: xs, y :: ys => if x = y then common xs ys + 1 else 0
  | _, _ => 0
def badI (m l : List Nat) : Int := if m = l then -1 else (common m l : Int)
theorem common_at : ∀ (i : Nat) (m l : List Nat), m.take i = l.take i → i ≤ m.length → i ≤ l.length → (i < m.length → i < l.length → m[i]? ≠ l[i]?) → common m l = i
  | 0, [], l, _, _, _, _ => by simp [common]
  | 0, x :: m, [], _, _, _, _ => by simp [common]
  | 0, x :: m, y :: l, _, _, _, h => by
    have := h (by simp) (by simp)
    simp at this
    simp [common, this]
  | i + 1, [], l, _, h, _, _ => by simp at h
  | i + 1, x :: m, [], _, _, h, _ => by simp at h
  | i + 1, x :: m, y :: l, h, h1, h2, h3 => by
    simp at h h1 h2 h3
    have := common_at i m l h.2 h1 h2 (fun a b => h3 a b)
    simp [common, h.1, this]
theorem badI_ne {m l : List Nat} {i : Nat} (h : m.take i = l.take i) (h1 : i < m.length) (h2 : i < l.length) (h3 : m[i]? ≠ l[i]?) : badI m l = i := by
  unfold badI
  rw [if_neg (fun e => h3 (by rw [e])), common_at i m l h (by omega) (by omega) (fun _ _ => h3)]
theorem badI_short {m l : List Nat} {i : Nat} (h : m.take i = l.take i) (h1 : i ≤ m.length) (h2 : i ≤ l.length) (h3 : i = m.length ∨ i = l.length) (h4 : m.length ≠ l.length) : badI m l = i := by
  unfold badI
  rw [if_neg (fun e => h4 (by rw [e])), common_at i m l h h1 h2 (fun a b => by omega)]
theorem badI_eq {m l : List Nat} {i : Nat} (h : m.take i = l.take i) (h1 : i = m.length) (h2 : i = l.length) : badI m l = -1 := by
  unfold badI
  rw [if_pos]
  rw [List.take_of_length_le (by omega), List.take_of_length_le (by omega)] at h
  exact h
theorem badI_self (m : List Nat) : badI m m = -1 := by simp [badI]
/-- the sums of any size -/
def sumsZ (size : Int) (l : List UInt8) : List Nat := if size < 1 then [] else sums (size - 1).toNat l
def badZ (size : Int) (l : List UInt8) (s : List Nat) : Int := if size < 1 then 0 else badI (sumsZ size l) s
theorem take_snoc_eq {m l : List Nat} {i : Nat} {x : Nat} (h : m.take i = l.take i) (h1 : m[i]? = some x) (h2 : l[i]? = some x) : m.take (i + 1) = l.take (i + 1) := by
  rw [List.take_add_one, List.take_add_one, h, h1, h2]
end Go.Proofs.YtmejgkcclgkgjaaDoor.Chk
