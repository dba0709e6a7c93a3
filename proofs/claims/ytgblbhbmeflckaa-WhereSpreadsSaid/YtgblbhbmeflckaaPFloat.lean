/- Plain laws of floating point: whole numbers below 2^53 are reckoned with exactly. -/
import Ieee.Word
import Ieee.Arith
import Derived.Laws.FloatBits
namespace Go.Proofs.Ytgblbhbmeflckaa.Fl
open Ieee
set_option linter.unusedVariables false
set_option linter.unusedSimpArgs false
abbrev D := Ieee.double
def Is (x : Nat) (s : Bool) (N : Nat) : Prop := ∃ k : Nat, D.read x = .number s (N * 2 ^ k) (-(k : Int))
def val (s : Bool) (N : Nat) : Int := if s then -(N : Int) else N
def F (s : Bool) (N : Nat) : Nat := D.nearest s N 0
theorem log2_mul (N k : Nat) (h : 0 < N) : (N * 2 ^ k).log2 = N.log2 + k := by
  have hk : 0 < 2 ^ k := Nat.two_pow_pos k
  have hne : N * 2 ^ k ≠ 0 := Nat.mul_ne_zero (by omega) (by omega)
  have h1 := Nat.log2_self_le (n := N) (by omega)
  have h2 := Nat.lt_log2_self (n := N)
  have a : 2 ^ (N.log2 + k) ≤ N * 2 ^ k := by rw [Nat.pow_add]; exact Nat.mul_le_mul_right _ h1
  have b : N * 2 ^ k < 2 ^ (N.log2 + 1 + k) := by rw [Nat.pow_add _ (N.log2 + 1)]; exact Nat.mul_lt_mul_of_pos_right h2 hk
  have c := (Nat.le_log2 hne).2 a
  have d := (Nat.log2_lt hne).2 b
  omega
theorem nearest_eq (s : Bool) (N k : Nat) (h0 : 0 < N) (h : N < 2 ^ 53) : D.nearest s (N * 2 ^ k) (-(k : Int)) = D.word s ((N.log2 + 1022) * 2 ^ 52 + N * 2 ^ (52 - N.log2)) := by
  have hk : 0 < 2 ^ k := Nat.two_pow_pos k
  have hne : N * 2 ^ k ≠ 0 := Nat.mul_ne_zero (by omega) (by omega)
  have hL : N.log2 < 53 := (Nat.log2_lt (by omega)).2 h
  have hlg := log2_mul N k h0
  have hM : N * 2 ^ (52 - N.log2) < 2 ^ 53 := by
    have h2 := Nat.lt_log2_self (n := N)
    have : N * 2 ^ (52 - N.log2) < 2 ^ (N.log2 + 1) * 2 ^ (52 - N.log2) := Nat.mul_lt_mul_of_pos_right h2 (Nat.two_pow_pos _)
    rw [← Nat.pow_add, show N.log2 + 1 + (52 - N.log2) = 53 by omega] at this
    exact this
  unfold Format.nearest
  rw [if_neg hne, hlg]
  have e1 : D.fractionBits = 52 := rfl
  have e2 : D.leastPlace = -1074 := rfl
  have e3 : D.binade = 2 ^ 52 := rfl
  have e4 : D.infRung = 2047 * 2 ^ 52 := rfl
  rw [e1, e2, e3, e4]
  have hlast : max (-(k : Int) + ((N.log2 + k : Nat) : Int) - (52 : Nat)) (-1074) = (N.log2 : Int) - 52 := by omega
  simp only [hlast]
  have hcut : Toward.even.cut s ((N * 2 ^ k) <<< (-(k : Int) - ((N.log2 : Int) - 52)).toNat) ((N.log2 : Int) - 52 - -(k : Int)).toNat = N * 2 ^ (52 - N.log2) := by
    rw [Nat.shiftLeft_eq]
    rcases Nat.le_total k (52 - N.log2) with hc | hc
    · rw [show (-(k : Int) - ((N.log2 : Int) - 52)).toNat = 52 - N.log2 - k by omega, show ((N.log2 : Int) - 52 - -(k : Int)).toNat = 0 by omega, Nat.mul_assoc, ← Nat.pow_add, show k + (52 - N.log2 - k) = 52 - N.log2 by omega]
      unfold Toward.cut
      simp [Nat.mod_one]
    · rw [show (-(k : Int) - ((N.log2 : Int) - 52)).toNat = 0 by omega, show ((N.log2 : Int) - 52 - -(k : Int)).toNat = k - (52 - N.log2) by omega, Nat.pow_zero, Nat.mul_one]
      unfold Toward.cut
      rw [hlg, Nat.min_eq_left (by omega), Nat.shiftLeft_eq, Nat.one_mul]
      dsimp only
      have hp : 0 < 2 ^ (k - (52 - N.log2)) := Nat.two_pow_pos _
      have hsp : N * 2 ^ k = N * 2 ^ (52 - N.log2) * 2 ^ (k - (52 - N.log2)) := by rw [Nat.mul_assoc, ← Nat.pow_add, show 52 - N.log2 + (k - (52 - N.log2)) = k by omega]
      rw [hsp, Nat.mul_div_cancel _ hp, Nat.mul_mod_left]
      have : (2 ^ (k - (52 - N.log2)) == 2 * 0) = false := by simp
      simp
  rw [hcut, show ((N.log2 : Int) - 52 - -1074).toNat = N.log2 + 1022 by omega, Nat.min_eq_left]
  have : (N.log2 + 1022) * 2 ^ 52 ≤ 1074 * 2 ^ 52 := Nat.mul_le_mul_right _ (by omega)
  have p3 : (2 : Nat) ^ 53 = 2 * 2 ^ 52 := rfl
  rw [p3] at hM
  generalize (2 : Nat) ^ 52 = p at *
  omega
theorem read_word (s : Bool) (L M : Nat) (hL : L < 53) (h1 : 2 ^ 52 ≤ M) (h2 : M < 2 ^ 53) : D.read (D.word s ((L + 1022) * 2 ^ 52 + M)) = .number s M ((L : Int) - 52) := by
  have e3 : D.binade = 4503599627370496 := rfl
  have e4 : D.infRung = 9218868437227405312 := rfl
  have e5 : D.signWeight = 9223372036854775808 := rfl
  have e2 : D.leastPlace = -1074 := rfl
  have p1 : 2 ^ 52 = 4503599627370496 := rfl
  have p2 : 2 ^ 53 = 9007199254740992 := rfl
  rw [p1] at h1 ⊢
  rw [p2] at h2
  generalize hr : (L + 1022) * 4503599627370496 + M = r
  have r1 : r < 9218868437227405312 := by omega
  have r2 : ¬ r < 4503599627370496 := by omega
  have r3 : r % 4503599627370496 = M - 4503599627370496 := by omega
  have r4 : r / 4503599627370496 = L + 1023 := by omega
  have w1 : D.word s r / 9223372036854775808 % 2 = s.toNat := by
    unfold Format.word
    rw [e5]
    cases s <;> simp <;> omega
  have w2 : D.word s r % 9223372036854775808 = r := by
    unfold Format.word
    rw [e5]
    cases s <;> simp <;> omega
  unfold Format.read
  rw [e2, e3, e4, e5, w1, w2, if_neg r2, if_pos r1, r3, r4]
  have hs : (s.toNat == 1) = s := by cases s <;> rfl
  rw [hs, Nat.add_sub_cancel' h1, show (-1074 : Int) + ((L + 1023 - 1 : Nat) : Int) = (L : Int) - 52 by clear e2 e3 e4 e5 p1 p2 hr r1 r2 r3 r4 w1 w2 h1 h2; omega]
theorem near_F (s : Bool) (N k : Nat) (h : N < 2 ^ 53) : D.nearest s (N * 2 ^ k) (-(k : Int)) = F s N := by
  rcases Nat.eq_zero_or_pos N with rfl | h0
  · unfold F Format.nearest
    simp
  · have h1 := nearest_eq s N 0 h0 h
    rw [Nat.pow_zero, Nat.mul_one] at h1
    rw [nearest_eq s N k h0 h]
    exact h1.symm
theorem is_F (s : Bool) (N : Nat) (h : N < 2 ^ 53) : Is (F s N) s N := by
  rcases Nat.eq_zero_or_pos N with rfl | h0
  · obtain ⟨k, hk⟩ : ∃ k : Nat, k = 1074 := ⟨_, rfl⟩
    refine ⟨k, ?_⟩
    rw [Nat.zero_mul]
    subst hk
    cases s <;> rfl
  · have hL : N.log2 < 53 := (Nat.log2_lt (by omega)).2 h
    have h2 := Nat.lt_log2_self (n := N)
    have h3 := Nat.log2_self_le (n := N) (by omega)
    have h1 := nearest_eq s N 0 h0 h
    rw [Nat.pow_zero, Nat.mul_one] at h1
    refine ⟨52 - N.log2, ?_⟩
    have : F s N = D.word s ((N.log2 + 1022) * 2 ^ 52 + N * 2 ^ (52 - N.log2)) := h1
    rw [this, read_word s N.log2 _ hL]
    · congr 1; omega
    · have : 2 ^ N.log2 * 2 ^ (52 - N.log2) ≤ N * 2 ^ (52 - N.log2) := Nat.mul_le_mul_right _ h3
      rw [← Nat.pow_add, show N.log2 + (52 - N.log2) = 52 by omega] at this
      exact this
    · have : N * 2 ^ (52 - N.log2) < 2 ^ (N.log2 + 1) * 2 ^ (52 - N.log2) := Nat.mul_lt_mul_of_pos_right h2 (Nat.two_pow_pos _)
      rw [← Nat.pow_add, show N.log2 + 1 + (52 - N.log2) = 53 by omega] at this
      exact this
theorem F_lt (s : Bool) (N : Nat) : F s N < 2 ^ 64 := D.nearest_lt s N 0
theorem signed_eq (s : Bool) (m up : Nat) : signed s m up = val s m * 2 ^ up := by
  unfold signed val
  rw [Nat.shiftLeft_eq]
  cases s <;> simp [Int.natCast_mul, Int.natCast_pow, Int.neg_mul]
theorem val_mul (s : Bool) (N k : Nat) : val s (N * 2 ^ k) = val s N * 2 ^ k := by
  unfold val
  cases s <;> simp [Int.natCast_mul, Int.natCast_pow, Int.neg_mul]
theorem val_natAbs (s : Bool) (N : Nat) : (val s N).natAbs = N := by unfold val; cases s <;> simp
theorem pow_pos' (k : Nat) : (0 : Int) < 2 ^ k := Int.pow_pos (by decide)
/-- Two numbers, brought to one place. -/
theorem meet (s t : Bool) (N M k l : Nat) : ∃ q : Nat, min (-(k : Int)) (-(l : Int)) = -(q : Int) ∧ signed s (N * 2 ^ k) (-(k : Int) - -(q : Int)).toNat = val s N * 2 ^ q ∧ signed t (M * 2 ^ l) (-(l : Int) - -(q : Int)).toNat = val t M * 2 ^ q := by
  refine ⟨max k l, by omega, ?_, ?_⟩
  · rw [signed_eq, val_mul, Int.mul_assoc, ← Int.pow_add]
    congr 2; omega
  · rw [signed_eq, val_mul, Int.mul_assoc, ← Int.pow_add]
    congr 2; omega
def sgn (s t : Bool) (v : Int) : Bool := if v = 0 then s && t else decide (v < 0)
theorem sum_is (s t : Bool) (N M k l : Nat) (h : N + M < 2 ^ 53) :
    ((Datum.number s (N * 2 ^ k) (-(k : Int))).sum (.number t (M * 2 ^ l) (-(l : Int)))).map D.write = some (F (sgn s t (val s N + val t M)) (val s N + val t M).natAbs) := by
  obtain ⟨q, h1, h2, h3⟩ := meet s t N M k l
  unfold Datum.sum
  simp only [h1, h2, h3, Option.map_some]
  rw [← Int.add_mul]
  generalize hv : val s N + val t M = v
  have hvb : v.natAbs < 2 ^ 53 := by
    have := val_natAbs s N
    have := val_natAbs t M
    omega
  have hp := pow_pos' q
  have e1 : (v * 2 ^ q = 0) = (v = 0) := by
    apply propext
    constructor
    · intro h
      rcases Int.mul_eq_zero.1 h with h | h
      · exact h
      · omega
    · rintro rfl; simp
  have e2 : (v * 2 ^ q < 0) = (v < 0) := by
    apply propext
    constructor
    · intro h
      rcases Int.lt_or_le v 0 with h1 | h1
      · exact h1
      · have := Int.mul_nonneg h1 (Int.le_of_lt hp); omega
    · intro h; exact Int.mul_neg_of_neg_of_pos h hp
  have e3 : (v * 2 ^ q).natAbs = v.natAbs * 2 ^ q := by
    rw [Int.natAbs_mul]; congr 1
  simp only [e1, e2, e3]
  show some (D.nearest _ _ _) = _
  exact congrArg some (near_F _ _ _ hvb)
theorem add_is {x y : Nat} {s t : Bool} {N M : Nat} (hx : Is x s N) (hy : Is y t M) (h : N + M < 2 ^ 53) : D.add x y = some (F (sgn s t (val s N + val t M)) (val s N + val t M).natAbs) := by
  obtain ⟨k, hx⟩ := hx
  obtain ⟨l, hy⟩ := hy
  unfold Format.add
  rw [hx, hy]
  exact sum_is s t N M k l h
theorem val_not (t : Bool) (M : Nat) : val (!t) M = - val t M := by unfold val; cases t <;> simp
theorem sub_is {x y : Nat} {s t : Bool} {N M : Nat} (hx : Is x s N) (hy : Is y t M) (h : N + M < 2 ^ 53) : D.sub x y = some (F (sgn s (!t) (val s N - val t M)) (val s N - val t M).natAbs) := by
  obtain ⟨k, hx⟩ := hx
  obtain ⟨l, hy⟩ := hy
  unfold Format.sub
  rw [hx, hy]
  have := sum_is s (!t) N M k l h
  rw [val_not, ← Int.sub_eq_add_neg] at this
  exact this
theorem mul_is {x y : Nat} {s t : Bool} {N M : Nat} (hx : Is x s N) (hy : Is y t M) (h : N * M < 2 ^ 53) : D.mul x y = some (F (s ^^ t) (N * M)) := by
  obtain ⟨k, hx⟩ := hx
  obtain ⟨l, hy⟩ := hy
  unfold Format.mul
  rw [hx, hy]
  show some (D.nearest (s ^^ t) (N * 2 ^ k * (M * 2 ^ l)) (-(k : Int) + -(l : Int))) = _
  rw [show N * 2 ^ k * (M * 2 ^ l) = N * M * 2 ^ (k + l) by rw [Nat.pow_add]; ac_rfl, show -(k : Int) + -(l : Int) = -((k + l : Nat) : Int) by omega, near_F _ _ _ h]
theorem order_is {x y : Nat} {s t : Bool} {N M : Nat} (hx : Is x s N) (hy : Is y t M) : D.order x y = some (compare (val s N) (val t M)) := by
  obtain ⟨k, hx⟩ := hx
  obtain ⟨l, hy⟩ := hy
  obtain ⟨q, h1, h2, h3⟩ := meet s t N M k l
  unfold Format.order
  rw [hx, hy]
  unfold Datum.order
  simp only [h1, h2, h3]
  congr 1
  have hp := pow_pos' q
  generalize val s N = a
  generalize val t M = b
  rcases Int.lt_trichotomy a b with h | h | h
  · have h' : a * 2 ^ q < b * 2 ^ q := Int.mul_lt_mul_of_pos_right h hp
    rw [Int.compare_eq_lt.2 h, Int.compare_eq_lt.2 h']
  · rw [h]; simp
  · have h' : b * 2 ^ q < a * 2 ^ q := Int.mul_lt_mul_of_pos_right h hp
    rw [Int.compare_eq_gt.2 h, Int.compare_eq_gt.2 h']
theorem toInt_is {x : Nat} {s : Bool} {N : Nat} (hx : Is x s N) : (D.read x).toInt .zero = some (val s N) := by
  obtain ⟨k, hx⟩ := hx
  rw [hx]
  unfold Datum.toInt Datum.integral
  simp only
  rw [signed_eq, Int.pow_zero, Int.mul_one]
  congr 2
  rw [show (-(k : Int)).toNat = 0 by omega, show (- -(k : Int)).toNat = k by omega, Nat.shiftLeft_eq, Nat.pow_zero, Nat.mul_one]
  unfold Toward.cut
  simp only [Bool.toNat_false, Nat.add_zero]
  rcases Nat.eq_zero_or_pos N with rfl | h0
  · simp
  · rw [log2_mul N k h0, Nat.min_eq_left (by omega), Nat.shiftLeft_eq, Nat.one_mul, Nat.mul_div_cancel _ (Nat.two_pow_pos k)]
theorem read_flip (x : Nat) : D.read (x ^^^ 2 ^ 63) = (D.read x).opposite := by
  have e5 : D.signWeight = 2 ^ 63 := rfl
  have hd : ((x ^^^ 2 ^ 63) / 2 ^ 63 % 2 == 1) = !(x / 2 ^ 63 % 2 == 1) := by
    rw [Nat.xor_div_two_pow, Nat.div_self (Nat.two_pow_pos 63)]
    generalize x / 2 ^ 63 = a
    have := Nat.xor_mod_two_pow (a := a) (b := 1) (n := 1)
    rw [Nat.pow_one] at this
    rw [this]
    rcases Nat.mod_two_eq_zero_or_one a with h | h <;> rw [h] <;> rfl
  have hm : (x ^^^ 2 ^ 63) % 2 ^ 63 = x % 2 ^ 63 := by
    rw [Nat.xor_mod_two_pow, Nat.mod_self, Nat.xor_zero]
  unfold Format.read
  rw [e5, hd, hm]
  dsimp only
  split
  · rfl
  · split
    · rfl
    · split
      · rfl
      · rfl
theorem neg_is {x : Nat} {s : Bool} {N : Nat} (hx : Is x s N) : Is (x ^^^ 2 ^ 63) (!s) N := by
  obtain ⟨k, hx⟩ := hx
  exact ⟨k, by rw [read_flip x, hx]; rfl⟩
theorem is_zero : Is 0 false 0 := by
  obtain ⟨k, hk⟩ : ∃ k : Nat, k = 1074 := ⟨_, rfl⟩
  refine ⟨k, ?_⟩
  rw [Nat.zero_mul]
  subst hk
  rfl
end Go.Proofs.Ytgblbhbmeflckaa.Fl
