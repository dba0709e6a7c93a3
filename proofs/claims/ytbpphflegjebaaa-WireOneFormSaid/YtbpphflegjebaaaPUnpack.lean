/- Plain laws of taking bytes apart. -/
import Derived.Test.YtbpphflegjebaaaPWire
namespace Wire
set_option linter.unusedVariables false
set_option linter.unusedSimpArgs false
inductive Got where
  | bad (e : Nat)
  | ok (u k : Nat)
/-- a number out of bytes: i of them are read already, they were worth acc -/
def decU : List UInt8 → Nat → Nat → Got
  | [], _, _ => .bad 20
  | b :: l, i, acc =>
    if i = 9 ∧ 1 < b.toNat then .bad 21
    else if 128 ≤ b.toNat then decU l (i + 1) (acc + (b.toNat % 128) * 2 ^ (7 * i))
    else if b.toNat = 0 ∧ 0 < i then .bad 21
    else .ok (acc + b.toNat * 2 ^ (7 * i)) (i + 1)
def unzz (u : Nat) : Int := if u % 2 = 1 then -((u / 2 : Nat) : Int) - 1 else ((u / 2 : Nat) : Int)
theorem unzz_zz (n : Int) : unzz (zz n) = n := by
  unfold unzz zz
  split <;> split <;> omega
theorem zz_unzz (u : Nat) : zz (unzz u) = u := by
  unfold unzz zz
  split <;> split <;> omega
theorem unzz_bd {u : Nat} (h : u < 18446744073709551616) : -9223372036854775808 ≤ unzz u ∧ unzz u ≤ 9223372036854775807 := by
  unfold unzz
  split <;> omega
theorem pow7 (i : Nat) : 2 ^ (7 * (i + 1)) = 128 * 2 ^ (7 * i) := by rw [Nat.mul_add, Nat.pow_add, Nat.mul_comm]
theorem decU_uv : ∀ (u i acc : Nat) (r : List UInt8), i ≤ 9 → u < 2 ^ (64 - 7 * i) → (i = 0 ∨ u ≠ 0) → decU (uv u ++ r) i acc = .ok (acc + u * 2 ^ (7 * i)) (i + (uv u).length) := by
  intro u
  induction u using Nat.strongRecOn with
  | _ u ih =>
    intro i acc r hi hu h0
    by_cases h : u < 128
    · rw [uv_lt h]
      have hb : (UInt8.ofNat u).toNat = u := by rw [UInt8.toNat_ofNat']; omega
      rw [List.singleton_append, decU, hb, if_neg, if_neg (by omega), if_neg (by omega)]
      · rfl
      · rintro ⟨rfl, h1⟩
        have : (2 : Nat) ^ (64 - 7 * 9) = 2 := by decide
        omega
    · rw [uv_ge h]
      have hb : (UInt8.ofNat (u % 128 + 128)).toNat = u % 128 + 128 := by rw [UInt8.toNat_ofNat']; omega
      have hi9 : i ≠ 9 := by
        rintro rfl
        have : (2 : Nat) ^ (64 - 7 * 9) = 2 := by decide
        omega
      rw [List.cons_append, decU, hb, if_neg (by omega), if_pos (by omega)]
      have e : 2 ^ (64 - 7 * i) = 128 * 2 ^ (64 - 7 * (i + 1)) := by
        rw [show 64 - 7 * i = 7 + (64 - 7 * (i + 1)) by omega, Nat.pow_add]
      rw [ih (u / 128) (by omega) (i + 1) _ r (by omega) (Nat.div_lt_of_lt_mul (by omega)) (Or.inr (by omega))]
      rw [pow7, show (u % 128 + 128) % 128 = u % 128 by omega]
      congr 1
      · have h1 : u = 128 * (u / 128) + u % 128 := by omega
        generalize 2 ^ (7 * i) = p
        generalize u / 128 = d at h1 ⊢
        generalize u % 128 = m at h1 ⊢
        subst h1
        rw [Nat.add_mul, Nat.mul_comm 128 d, Nat.mul_assoc]
        omega
      · rw [List.length_cons]; omega
theorem decU_enc (u : Nat) (h : u < 18446744073709551616) (r : List UInt8) : decU (uv u ++ r) 0 0 = .ok u (uv u).length := by
  rw [decU_uv u 0 0 r (by omega) (by simpa using h) (Or.inl rfl)]
  simp
theorem decU_form : ∀ (l : List UInt8) (i acc v k : Nat), i ≤ 9 → decU l i acc = .ok v k → ∃ u, v = acc + u * 2 ^ (7 * i) ∧ i < k ∧ k ≤ i + l.length ∧ l.take (k - i) = uv u ∧ u < 2 ^ (64 - 7 * i) ∧ (0 < i → u ≠ 0)
  | [], i, acc, v, k, _, h => by rw [decU] at h; cases h
  | b :: l, i, acc, v, k, hi, h => by
    have hbl := b.toNat_lt
    rw [decU] at h
    by_cases h9 : i = 9 ∧ 1 < b.toNat
    · rw [if_pos h9] at h; cases h
    · rw [if_neg h9] at h
      by_cases hb : 128 ≤ b.toNat
      · rw [if_pos hb] at h
        have hi9 : i ≠ 9 := fun e => h9 ⟨e, by omega⟩
        obtain ⟨u, e1, e2, e3, e4, e5, e6⟩ := decU_form l (i + 1) _ v k (by omega) h
        have hu0 : u ≠ 0 := e6 (by omega)
        have e : 2 ^ (64 - 7 * i) = 128 * 2 ^ (64 - 7 * (i + 1)) := by
          rw [show 64 - 7 * i = 7 + (64 - 7 * (i + 1)) by omega, Nat.pow_add]
        refine ⟨b.toNat % 128 + 128 * u, ?_, by omega, by rw [List.length_cons]; omega, ?_, by omega, fun _ => by omega⟩
        · rw [e1, pow7]
          generalize 2 ^ (7 * i) = p
          generalize b.toNat % 128 = m
          rw [Nat.add_mul, Nat.mul_comm 128 u, Nat.mul_assoc]
          omega
        · rw [show k - i = (k - (i + 1)) + 1 by omega, List.take_succ_cons, e4, uv_ge (u := b.toNat % 128 + 128 * u) (by omega)]
          congr 1
          · apply UInt8.toNat_inj.1
            rw [UInt8.toNat_ofNat']
            omega
          · congr 1; omega
      · rw [if_neg hb] at h
        by_cases hz : b.toNat = 0 ∧ 0 < i
        · rw [if_pos hz] at h; cases h
        · rw [if_neg hz] at h
          injection h with h1 h2
          subst h1; subst h2
          refine ⟨b.toNat, rfl, by omega, by simp, ?_, ?_, fun h0 e => hz ⟨e, h0⟩⟩
          · rw [show i + 1 - i = 1 by omega, uv_lt (by omega)]
            simp
          · by_cases e9 : i = 9
            · subst e9
              have : (2 : Nat) ^ (64 - 7 * 9) = 2 := by decide
              have : ¬ 1 < b.toNat := fun h => h9 ⟨rfl, h⟩
              omega
            · have h1 : (2 : Nat) ^ 8 ≤ 2 ^ (64 - 7 * i) := Nat.pow_le_pow_right (by decide) (by omega)
              omega
theorem decU_one {l : List UInt8} {u k : Nat} (h : decU l 0 0 = .ok u k) : u < 18446744073709551616 ∧ 0 < k ∧ k ≤ l.length ∧ l.take k = uv u := by
  obtain ⟨u', e1, e2, e3, e4, e5, _⟩ := decU_form l 0 0 u k (by omega) h
  have : u = u' := by rw [e1]; simp
  subst this
  exact ⟨by simpa using e5, by omega, by omega, by simpa using e4⟩
end Wire
