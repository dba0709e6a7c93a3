/- Plain laws of numbers as bytes: no program in sight. -/
namespace Wire
def zz (n : Int) : Nat := if 0 ≤ n then (2 * n).toNat else (-2 * n - 1).toNat
def uv (u : Nat) : List UInt8 := if u < 128 then [UInt8.ofNat u] else UInt8.ofNat (u % 128 + 128) :: uv (u / 128)
termination_by u
decreasing_by omega
theorem uv_lt {u : Nat} (h : u < 128) : uv u = [UInt8.ofNat u] := by rw [uv, if_pos h]
theorem uv_ge {u : Nat} (h : ¬ u < 128) : uv u = UInt8.ofNat (u % 128 + 128) :: uv (u / 128) := by rw [uv, if_neg h]
def enc (n : Int) : List UInt8 := uv (zz n)
theorem zz_lt {n : Int} (h1 : -9223372036854775808 ≤ n) (h2 : n ≤ 9223372036854775807) : zz n < 18446744073709551616 := by
  unfold zz; split <;> omega
theorem uv_pos (u : Nat) : 1 ≤ (uv u).length := by rw [uv]; split <;> simp
theorem uv_len (k : Nat) : ∀ u, u < 128 ^ (k + 1) → (uv u).length ≤ k + 1 := by
  induction k with
  | zero => intro u h; rw [uv_lt (by simpa using h)]; simp
  | succ k ih =>
    intro u h
    by_cases hu : u < 128
    · rw [uv_lt hu]; simp
    · rw [uv_ge hu]
      have := ih (u / 128) (by rw [Nat.pow_succ] at h; exact Nat.div_lt_of_lt_mul (by omega))
      simp; omega
theorem uv_len10 {u : Nat} (h : u < 18446744073709551616) : (uv u).length ≤ 10 := uv_len 9 u (Nat.lt_of_lt_of_le h (by decide))
theorem uv_mono : ∀ (u v : Nat), u ≤ v → (uv u).length ≤ (uv v).length := by
  intro u
  induction u using Nat.strongRecOn with
  | _ u ih =>
    intro v h
    by_cases hu : u < 128
    · rw [uv_lt hu]; exact uv_pos v
    · rw [uv_ge hu, uv_ge (u := v) (by omega)]
      have := ih (u / 128) (by omega) (v / 128) (by omega)
      simp; omega
end Wire
