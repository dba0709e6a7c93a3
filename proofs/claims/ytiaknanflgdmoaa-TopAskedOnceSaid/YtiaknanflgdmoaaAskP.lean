/- Decimal digits: the plain law. -/
import Derived.Test.YtiaknanflgdmoaaKit
namespace Go.Proofs.Ytiaknanflgdmoaa
set_option linter.unusedVariables false
set_option linter.unusedSimpArgs false
def dec (n : Nat) : List UInt8 := if h : n < 10 then [UInt8.ofNat (48 + n)] else dec (n / 10) ++ [UInt8.ofNat (48 + n % 10)]
termination_by n
decreasing_by omega
def val (l : List UInt8) : Nat := l.foldl (fun a b => 10 * a + (b.toNat - 48)) 0
theorem val_snoc (l : List UInt8) (b : UInt8) : val (l ++ [b]) = 10 * val l + (b.toNat - 48) := by simp [val]
theorem digit_toNat (d : Nat) (h : d < 10) : (UInt8.ofNat (48 + d)).toNat = 48 + d := by rw [UInt8.toNat_ofNat']; omega
theorem dec_small {n : Nat} (h : n < 10) : dec n = [UInt8.ofNat (48 + n % 10)] := by
  rw [dec, dif_pos h, Nat.mod_eq_of_lt h]
theorem dec_big {n : Nat} (h : ¬ n < 10) : dec n = dec (n / 10) ++ [UInt8.ofNat (48 + n % 10)] := by rw [dec, dif_neg h]
theorem val_dec (n : Nat) : val (dec n) = n := by
  induction n using Nat.strongRecOn with
  | ind n ih =>
    by_cases h : n < 10
    · rw [dec_small h, Nat.mod_eq_of_lt h]
      simp only [val, List.foldl_cons, List.foldl_nil]
      rw [digit_toNat n h]
      omega
    · rw [dec_big h, val_snoc, ih _ (by omega), digit_toNat _ (by omega)]
      omega
theorem dec_digit (n : Nat) : ∀ b ∈ dec n, 48 ≤ b.toNat ∧ b.toNat ≤ 57 := by
  induction n using Nat.strongRecOn with
  | ind n ih =>
    have hd := digit_toNat (n % 10) (by omega)
    by_cases h : n < 10
    · rw [dec_small h]
      intro b hb
      obtain rfl := List.mem_singleton.1 hb
      omega
    · rw [dec_big h]
      intro b hb
      rcases List.mem_append.1 hb with hb | hb
      · exact ih _ (by omega) b hb
      · obtain rfl := List.mem_singleton.1 hb
        omega
theorem val_take_le (l : List UInt8) (k : Nat) : val (l.take k) ≤ val l := by
  suffices H : ∀ (l : List UInt8) (a b k : Nat), a ≤ b → (l.take k).foldl (fun a b => 10 * a + (b.toNat - 48)) a ≤ l.foldl (fun a b => 10 * a + (b.toNat - 48)) b by exact H l 0 0 k (Nat.le_refl _)
  intro l
  induction l with
  | nil => intro a b k h; simpa using h
  | cons c l ih =>
    intro a b k h
    cases k with
    | zero =>
      have h2 := ih (10 * b + (c.toNat - 48)) (10 * b + (c.toNat - 48)) 0 (Nat.le_refl _)
      simp only [List.take_zero, List.foldl_nil, List.foldl_cons] at h2 ⊢
      omega
    | succ k =>
      simp only [List.take_succ_cons, List.foldl_cons]
      exact ih _ _ k (by omega)
theorem dec_len (n m : Nat) (h : n < 10 ^ (m + 1)) : (dec n).length ≤ m + 1 := by
  induction m generalizing n with
  | zero => rw [dec_small (by simpa using h)]; simp
  | succ m ih =>
    by_cases h1 : n < 10
    · rw [dec_small h1]; simp
    · rw [dec_big h1]
      have := ih (n / 10) (by rw [Nat.pow_succ] at h; omega)
      simp; omega
end Go.Proofs.Ytiaknanflgdmoaa
