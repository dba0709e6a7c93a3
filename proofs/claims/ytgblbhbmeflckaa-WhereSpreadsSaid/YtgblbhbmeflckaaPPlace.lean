/- Plain laws: which words are whole numbers from -1000 to 1000. -/
import Derived.Test.YtgblbhbmeflckaaPFloat
namespace Go.Proofs.Ytgblbhbmeflckaa.Fl
open Ieee
set_option linter.unusedVariables false
set_option linter.unusedSimpArgs false
abbrev hi : Nat := 4652007308841189376
abbrev lo : Nat := 13875379345695965184
theorem is_hi : Is hi false 1000 := ⟨43, by rfl⟩
theorem is_lo : Is lo true 1000 := ⟨43, by rfl⟩
theorem num_read {x : Nat} {s : Bool} {m : Nat} {e : Int} (h : D.read x = .number s m e) : e < 0 ∨ 2 ^ 52 ≤ m := by
  unfold Format.read at h
  dsimp only at h
  split at h
  · cases h; left; decide
  · split at h
    · cases h
      right
      show 2 ^ 52 ≤ 2 ^ 52 + _
      omega
    · split at h <;> cases h
theorem order_gen {x y : Nat} {s t : Bool} {m M k : Nat} (hx : D.read x = .number s m (-(k : Int))) (hy : Is y t M) : D.order x y = some (compare (val s m) (val t M * 2 ^ k)) := by
  obtain ⟨l, hy⟩ := hy
  unfold Format.order
  rw [hx, hy]
  unfold Datum.order
  simp only
  obtain ⟨q, hq1, hq2, hq3⟩ : ∃ q : Nat, min (-(k : Int)) (-(l : Int)) = -(q : Int) ∧ k ≤ q ∧ l ≤ q := ⟨max k l, by omega, by omega, by omega⟩
  rw [hq1, signed_eq, signed_eq, val_mul, Int.mul_assoc, ← Int.pow_add, show (-(k : Int) - -(q : Int)).toNat = q - k by omega, show l + (-(l : Int) - -(q : Int)).toNat = k + (q - k) by omega, Int.pow_add, ← Int.mul_assoc]
  congr 1
  have hp := pow_pos' (q - k)
  generalize val s m = a
  generalize val t M * 2 ^ k = b
  rcases Int.lt_trichotomy a b with h | h | h
  · rw [Int.compare_eq_lt.2 h, Int.compare_eq_lt.2 (Int.mul_lt_mul_of_pos_right h hp)]
  · rw [h]; simp
  · rw [Int.compare_eq_gt.2 h, Int.compare_eq_gt.2 (Int.mul_lt_mul_of_pos_right h hp)]
theorem order_far {x : Nat} {s : Bool} {m : Nat} {e : Int} (hx : D.read x = .number s m e) (he : 0 < e) :
    D.order x hi = some (if s then .lt else .gt) ∧ D.order x lo = some (if s then .lt else .gt) := by
  have hm : 2 ^ 52 ≤ m := by
    rcases num_read hx with h | h
    · omega
    · exact h
  have key : (1000 * 2 ^ 43 : Int) < m * 2 ^ (e + 43).toNat := by
    have h1 : (2 : Int) ^ 43 ≤ 2 ^ (e + 43).toNat := by
      have := Nat.pow_le_pow_right (n := 2) (by decide) (show 43 ≤ (e + 43).toNat by omega)
      exact_mod_cast this
    have h2 : (1000 : Int) < m := by
      have : (2 : Nat) ^ 52 = 4503599627370496 := rfl
      omega
    have h3 : (m : Int) * 2 ^ 43 ≤ m * 2 ^ (e + 43).toNat := Int.mul_le_mul_of_nonneg_left h1 (by omega)
    have h4 : (1000 : Int) * 2 ^ 43 < m * 2 ^ 43 := Int.mul_lt_mul_of_pos_right h2 (pow_pos' 43)
    omega
  have e1 : min e (-43 : Int) = -43 := by omega
  have gen : ∀ (t : Bool) (y : Nat), D.read y = .number t (1000 * 2 ^ 43) (-43) → D.order x y = some (compare (val s m * 2 ^ (e + 43).toNat) (val t (1000 * 2 ^ 43))) := by
    intro t y hy
    unfold Format.order
    rw [hx, hy]
    unfold Datum.order
    simp only [e1]
    rw [signed_eq, signed_eq, show (e - -43).toNat = (e + 43).toNat by congr 1, show ((-43 : Int) - -43).toNat = 0 by rfl, Int.pow_zero, Int.mul_one]
  have h5 : ((1000 * 2 ^ 43 : Nat) : Int) = 1000 * 2 ^ 43 := by rfl
  rw [gen false hi (by rfl), gen true lo (by rfl)]
  generalize (2 : Int) ^ (e + 43).toNat = p at *
  have v1 : val false (1000 * 2 ^ 43) = 1000 * 2 ^ 43 := by rfl
  have v2 : val true (1000 * 2 ^ 43) = -(1000 * 2 ^ 43) := by rfl
  rw [v1, v2]
  have hq : (0 : Int) < 1000 * 2 ^ 43 := by decide
  generalize (1000 * 2 ^ 43 : Int) = q at *
  clear gen v1 v2 h5
  cases s
  · have v3 : val false m * p = m * p := rfl
    rw [v3, Int.compare_eq_gt.2 key, Int.compare_eq_gt.2 (by omega)]
    exact ⟨rfl, rfl⟩
  · have v3 : val true m * p = -(m * p) := by show -(m : Int) * p = _; rw [Int.neg_mul]
    rw [v3, Int.compare_eq_lt.2 (by omega), Int.compare_eq_lt.2 (by omega)]
    exact ⟨rfl, rfl⟩
/-- What a word's tests say. -/
inductive Kind (x : Nat) : Prop where
  | yes (s : Bool) (N : Nat) (hN : N ≤ 1000) (h : Is x s N)
  | part (n : Int) (h1 : -1000 ≤ n) (h2 : n ≤ 1000) (ht : (D.read x).toInt .zero = some n) (hs : D.order x x = some .eq) (c1 : D.order x hi = some .lt ∨ D.order x hi = some .eq) (c2 : D.order x lo = some .gt ∨ D.order x lo = some .eq)
      (hne : D.order x (F (decide (n < 0)) n.natAbs) ≠ some .eq) (hne' : D.order (F (decide (n < 0)) n.natAbs) x ≠ some .eq)
  | nan (h1 : D.order x x = none) (h2 : D.order x hi = none) (h3 : D.order x lo = none)
  | high (h1 : D.order x x = some .eq) (h2 : D.order x hi = some .gt) (h3 : D.order x lo = some .gt)
  | low (h1 : D.order x x = some .eq) (h2 : D.order x hi = some .lt) (h3 : D.order x lo = some .lt)
theorem order_flip (x y : Nat) : D.order y x = (D.order x y).map Ordering.swap := by
  unfold Format.order Datum.order
  generalize D.read x = a
  generalize D.read y = b
  cases a <;> cases b <;> simp only [Option.map_none, Option.map_some] <;> try rfl
  · rename_i s m i t n j
    rw [Int.min_comm]
    congr 1
    exact (Int.compare_swap _ _).symm
  · rename_i s m i t
    cases t <;> rfl
  · rename_i s t m i
    cases s <;> rfl
  · rename_i s t
    cases s <;> cases t <;> rfl
theorem order_number {x : Nat} {s : Bool} {m : Nat} {e : Int} (h : D.read x = .number s m e) : D.order x x = some .eq := by
  unfold Format.order
  rw [h]
  unfold Datum.order
  simp
theorem cut_zero (s : Bool) (m k : Nat) : Toward.zero.cut s m k = m / 2 ^ k := by
  unfold Toward.cut
  simp only [Bool.toNat_false, Nat.add_zero]
  rw [Nat.shiftLeft_eq, Nat.one_mul]
  rcases Nat.le_total k (m.log2 + 2) with h | h
  · rw [Nat.min_eq_left h]
  · rw [Nat.min_eq_right h]
    have h1 := Nat.lt_log2_self (n := m)
    have h2 : 2 ^ (m.log2 + 1) ≤ 2 ^ (m.log2 + 2) := Nat.pow_le_pow_right (by decide) (by omega)
    have h3 : 2 ^ (m.log2 + 2) ≤ 2 ^ k := Nat.pow_le_pow_right (by decide) h
    rw [Nat.div_eq_of_lt (by omega), Nat.div_eq_of_lt (by omega)]
theorem val_neg {s : Bool} {m : Nat} : val s m < 0 ↔ s = true ∧ 0 < m := by
  unfold val
  cases s <;> simp <;> omega
theorem F_val (s : Bool) (N : Nat) : Is (F (decide (val s N < 0)) (val s N).natAbs) (decide (val s N < 0)) N ∨ 2 ^ 53 ≤ N := by
  rcases Nat.lt_or_ge N (2 ^ 53) with h | h
  · left
    rw [val_natAbs]
    exact is_F _ _ h
  · exact .inr h
theorem val_dec (v : Int) : val (decide (v < 0)) v.natAbs = v := by
  unfold val
  by_cases h : v < 0 <;> simp [h] <;> omega
theorem kind (x : Nat) : Kind x := by
  cases hx : D.read x with
  | nan s f => exact .nan (by simp [Format.order, hx, Datum.order]) (by simp [Format.order, hx, Datum.order]) (by simp [Format.order, hx, Datum.order])
  | infinity s =>
    have h1 : D.order x x = some .eq := by unfold Format.order; rw [hx]; cases s <;> rfl
    have r1 : D.read hi = .number false (1000 * 2 ^ 43) (-43) := by rfl
    have r2 : D.read lo = .number true (1000 * 2 ^ 43) (-43) := by rfl
    cases s
    · exact .high h1 (by unfold Format.order; rw [hx, r1]; rfl) (by unfold Format.order; rw [hx, r2]; rfl)
    · exact .low h1 (by unfold Format.order; rw [hx, r1]; rfl) (by unfold Format.order; rw [hx, r2]; rfl)
  | number s m e =>
    have h1 := order_number hx
    rcases Int.lt_or_le 0 e with he | he
    · obtain ⟨f1, f2⟩ := order_far hx he
      cases s
      · exact .high h1 f1 f2
      · exact .low h1 f1 f2
    · obtain ⟨k, rfl⟩ : ∃ k : Nat, e = -(k : Int) := ⟨(-e).toNat, by omega⟩
      have oh := order_gen hx is_hi
      have ol := order_gen hx is_lo
      have hp := pow_pos' k
      have vh : val false 1000 = 1000 := rfl
      have vl : val true 1000 = -1000 := rfl
      rw [vh] at oh
      rw [vl] at ol
      rcases Int.lt_or_le (1000 * 2 ^ k) (val s m) with c | c
      · exact .high h1 (by rw [oh, Int.compare_eq_gt.2 c]) (by rw [ol, Int.compare_eq_gt.2 (by omega)])
      · rcases Int.lt_or_le (val s m) (-1000 * 2 ^ k) with d | d
        · exact .low h1 (by rw [oh, Int.compare_eq_lt.2 (by omega)]) (by rw [ol, Int.compare_eq_lt.2 d])
        · have ht : (D.read x).toInt .zero = some (val s (m / 2 ^ k)) := by
            rw [hx]
            unfold Datum.toInt Datum.integral
            simp only
            rw [signed_eq, Int.pow_zero, Int.mul_one, show (-(k : Int)).toNat = 0 by omega, show (- -(k : Int)).toNat = k by omega, Nat.shiftLeft_eq, Nat.pow_zero, Nat.mul_one, cut_zero]
          have hmk : m ≤ 1000 * 2 ^ k := by
            have h3 : ((2 ^ k : Nat) : Int) = 2 ^ k := by rw [Int.natCast_pow]; rfl
            have h4 := val_natAbs s m
            rw [← h3] at c d
            generalize 2 ^ k = p at *
            omega
          have hq : m / 2 ^ k ≤ 1000 := by
            have h3 := Nat.div_le_div_right (c := 2 ^ k) hmk
            rwa [Nat.mul_div_cancel _ (Nat.two_pow_pos k)] at h3
          have hF := is_F (decide (val s (m / 2 ^ k) < 0)) (val s (m / 2 ^ k)).natAbs (by rw [val_natAbs]; exact Nat.lt_of_le_of_lt hq (by decide))
          have oF := order_gen hx hF
          rw [val_dec] at oF
          by_cases hv : val s m = val s (m / 2 ^ k) * 2 ^ k
          · refine .yes s (m / 2 ^ k) hq ⟨k, ?_⟩
            rw [hx]
            congr 1
            rw [← val_mul] at hv
            have := congrArg Int.natAbs hv
            rwa [val_natAbs, val_natAbs] at this
          · have hvb := val_natAbs s (m / 2 ^ k)
            have hne : D.order x (F (decide (val s (m / 2 ^ k) < 0)) (val s (m / 2 ^ k)).natAbs) ≠ some .eq := by
              rw [oF]
              intro h
              exact hv (Int.compare_eq_eq.1 (Option.some.inj h))
            refine .part _ (by omega) (by omega) ht h1 ?_ ?_ hne ?_
            · rw [oh]
              rcases Int.lt_or_eq_of_le c with c | c
              · left; rw [Int.compare_eq_lt.2 c]
              · right; rw [c]; simp
            · rw [ol]
              rcases Int.lt_or_eq_of_le d with d | d
              · left; rw [Int.compare_eq_gt.2 d]
              · right; rw [d]; simp
            · rw [order_flip]
              intro h
              rw [Option.map_eq_some_iff] at h
              obtain ⟨o, ho, h⟩ := h
              cases o <;> simp at h
              exact hne ho
/-- The whole number that a word is, from -1000 to 1000. -/
noncomputable def pl (x : Nat) : Option Int := open Classical in if ∃ s N, N ≤ 1000 ∧ Is x s N then (D.read x).toInt .zero else none
theorem pl_yes {x : Nat} {s : Bool} {N : Nat} (h : Is x s N) (hN : N ≤ 1000) : pl x = some (val s N) := by
  unfold pl
  rw [if_pos ⟨s, N, hN, h⟩, toInt_is h]
theorem pl_no {x : Nat} (h : ∀ s N, N ≤ 1000 → ¬ Is x s N) : pl x = none := by
  unfold pl
  rw [if_neg fun ⟨s, N, h1, h2⟩ => h s N h1 h2]
theorem val_le {s : Bool} {N : Nat} (h : N ≤ 1000) : -1000 ≤ val s N ∧ val s N ≤ 1000 := by unfold val; cases s <;> simp <;> omega
def fw (n : Int) : Nat := F (decide (n < 0)) n.natAbs
theorem is_fw {n : Int} (h : n.natAbs < 2 ^ 53) : Is (fw n) (decide (n < 0)) n.natAbs := is_F _ _ h
theorem fw_inj {n m : Int} (hn : n.natAbs < 2 ^ 53) (hm : m.natAbs < 2 ^ 53) (h : fw n = fw m) : n = m := by
  have h1 := toInt_is (is_fw hn)
  have h2 := toInt_is (is_fw hm)
  rw [h, h2, val_dec, val_dec] at h1
  exact (Option.some.inj h1).symm
/-- A word, as its tests see it: within the bounds (and whole, or not), or outside. -/
inductive Kin (x : Nat) : Prop where
  | mid (n : Int) (h1 : -1000 ≤ n) (h2 : n ≤ 1000) (ht : (D.read x).toInt .zero = some n) (hs : D.order x x = some .eq) (c1 : D.order x hi = some .lt ∨ D.order x hi = some .eq) (c2 : D.order x lo = some .gt ∨ D.order x lo = some .eq)
      (e : (D.order x (fw n) = some .eq ∧ D.order (fw n) x = some .eq ∧ pl x = some n) ∨ ((D.order x (fw n) == some .eq) = false ∧ (D.order (fw n) x == some .eq) = false ∧ pl x = none))
  | nan (h1 : D.order x x = none) (h2 : D.order x hi = none) (h3 : D.order x lo = none) (h4 : pl x = none)
  | high (h1 : D.order x x = some .eq) (h2 : D.order x hi = some .gt) (h3 : D.order x lo = some .gt) (h4 : pl x = none)
  | low (h1 : D.order x x = some .eq) (h2 : D.order x hi = some .lt) (h3 : D.order x lo = some .lt) (h4 : pl x = none)
theorem cmp_le {a b : Int} (h : a ≤ b) : some (compare a b) = some Ordering.lt ∨ some (compare a b) = some Ordering.eq := by
  rcases Int.lt_or_eq_of_le h with h | h
  · exact .inl (by rw [Int.compare_eq_lt.2 h])
  · exact .inr (by rw [h]; simp)
theorem cmp_ge {a b : Int} (h : b ≤ a) : some (compare a b) = some Ordering.gt ∨ some (compare a b) = some Ordering.eq := by
  rcases Int.lt_or_eq_of_le h with h | h
  · exact .inl (by rw [Int.compare_eq_gt.2 h])
  · exact .inr (by rw [h]; simp)
theorem kin (x : Nat) : Kin x := by
  rcases kind x with ⟨s, N, hN, h⟩ | ⟨n, h1, h2, ht, hs, c1, c2, hne, hne'⟩ | ⟨h1, h2, h3⟩ | ⟨h1, h2, h3⟩ | ⟨h1, h2, h3⟩
  · obtain ⟨v1, v2⟩ := val_le (s := s) hN
    have hF := is_fw (n := val s N) (by rw [val_natAbs]; exact Nat.lt_of_le_of_lt hN (by decide))
    have o1 := order_is h hF
    have o2 := order_is hF h
    rw [val_dec] at o1 o2
    refine .mid (val s N) v1 v2 (toInt_is h) (by rw [order_is h h]; simp) ?_ ?_ (.inl ⟨by rw [o1]; simp, by rw [o2]; simp, pl_yes h hN⟩)
    · rw [order_is h is_hi]; exact cmp_le v2
    · rw [order_is h is_lo]; exact cmp_ge v1
  · refine .mid n h1 h2 ht hs c1 c2 (.inr ⟨?_, ?_, ?_⟩)
    · rw [beq_eq_false_iff_ne]; exact hne
    · rw [beq_eq_false_iff_ne]; exact hne'
    · refine pl_no fun s N hN h => hne ?_
      rw [toInt_is h] at ht
      have hv := Option.some.inj ht
      have hF := is_fw (n := n) (by rw [← hv, val_natAbs]; exact Nat.lt_of_le_of_lt hN (by decide))
      have := order_is h hF
      rw [val_dec, hv] at this
      rw [show F (decide (n < 0)) n.natAbs = fw n from rfl, this]; simp
  · exact .nan h1 h2 h3 (pl_no fun s N hN h => by rw [order_is h h] at h1; cases h1)
  · refine .high h1 h2 h3 (pl_no fun s N hN h => ?_)
    rw [order_is h is_hi] at h2
    have := Int.compare_eq_gt.1 (Option.some.inj h2)
    have := (val_le (s := s) hN).2
    have : val false 1000 = 1000 := rfl
    omega
  · refine .low h1 h2 h3 (pl_no fun s N hN h => ?_)
    rw [order_is h is_lo] at h3
    have := Int.compare_eq_lt.1 (Option.some.inj h3)
    have := (val_le (s := s) hN).1
    have : val true 1000 = -1000 := rfl
    omega
theorem pl_is {x : Nat} {n : Int} (h : pl x = some n) : -1000 ≤ n ∧ n ≤ 1000 ∧ ∃ s N, N ≤ 1000 ∧ Is x s N ∧ val s N = n := by
  unfold pl at h
  split at h
  · rename_i hh
    obtain ⟨s, N, hN, hI⟩ := hh
    rw [toInt_is hI] at h
    have := Option.some.inj h
    have hv := val_le (s := s) hN
    exact ⟨by omega, by omega, s, N, hN, hI, this⟩
  · cases h
theorem pl_fw {n : Int} (h1 : -1000 ≤ n) (h2 : n ≤ 1000) : pl (fw n) = some n := by
  rw [pl_yes (is_fw (by have : (2 : Nat) ^ 53 = 9007199254740992 := rfl; omega)) (by omega), val_dec]
theorem val_sgn (s t : Bool) (v : Int) : val (sgn s t v) v.natAbs = v := by
  unfold sgn
  by_cases h : v = 0
  · subst h; unfold val; simp
  · rw [if_neg h]; exact val_dec v
/-- The difference of two places' parts. -/
theorem sub_w {a c : Nat} {n m : Int} (ha : pl a = some n) (hc : pl c = some m) : ∃ r s N, D.sub a c = some r ∧ Is r s N ∧ val s N = n - m ∧ N ≤ 2000 := by
  obtain ⟨b1, b2, s, N, hN, hI, rfl⟩ := pl_is ha
  obtain ⟨c1, c2, t, M, hM, hJ, rfl⟩ := pl_is hc
  have h53 : (2 : Nat) ^ 53 = 9007199254740992 := rfl
  refine ⟨_, _, _, sub_is hI hJ (by omega), is_F _ _ (by omega), val_sgn _ _ _, by omega⟩
/-- A number times its mirror image. -/
theorem prod_w {x y : Nat} {s t : Bool} {N M : Nat} (hx : Is x s N) (hy : Is y t M) (hN : N ≤ 2000) (hM : M ≤ 2000) :
    ∃ ac bd re ad bc im u V, D.mul x x = some ac ∧ D.mul y (y ^^^ 2 ^ 63) = some bd ∧ D.sub ac bd = some re ∧ D.mul x (y ^^^ 2 ^ 63) = some ad ∧ D.mul y x = some bc ∧ D.add ad bc = some im ∧ Is re u V ∧ val u V = (N * N + M * M : Nat) := by
  have hn := neg_is hy
  have h53 : (2 : Nat) ^ 53 = 9007199254740992 := rfl
  have k1 : N * N ≤ 2000 * 2000 := Nat.mul_le_mul hN hN
  have k2 : M * M ≤ 2000 * 2000 := Nat.mul_le_mul hM hM
  have k3 : N * M ≤ 2000 * 2000 := Nat.mul_le_mul hN hM
  have k4 : M * N ≤ 2000 * 2000 := Nat.mul_le_mul hM hN
  have m1 := mul_is hx hx (by omega)
  have m2 := mul_is hy hn (by omega)
  have m3 := mul_is hx hn (by omega)
  have m4 := mul_is hy hx (by omega)
  have i1 := is_F (s ^^ s) (N * N) (by omega)
  have i2 := is_F (t ^^ !t) (M * M) (by omega)
  have i3 := is_F (s ^^ !t) (N * M) (by omega)
  have i4 := is_F (t ^^ s) (M * N) (by omega)
  have v1 : val (s ^^ s) (N * N) = (N * N : Nat) := by cases s <;> rfl
  have v2 : val (t ^^ !t) (M * M) = -((M * M : Nat) : Int) := by cases t <;> rfl
  have s1 := sub_is i1 i2 (by omega)
  have s2 := add_is i3 i4 (by omega)
  refine ⟨_, _, _, _, _, _, _, _, m1, m2, s1, m3, m4, s2, is_F _ _ ?_, ?_⟩
  · rw [v1, v2]; omega
  · rw [val_sgn, v1, v2]; omega
def distI : Option Int → Option Int → Option Int → Option Int → Int
  | some a, some b, some c, some d => (a - c) * (a - c) + (b - d) * (b - d)
  | _, _, _, _ => -1
theorem dist_val {n m : Int} {s t : Bool} {N M : Nat} (h1 : val s N = n) (h2 : val t M = m) : ((N * N + M * M : Nat) : Int) = n * n + m * m := by
  subst h1; subst h2
  unfold val
  cases s <;> cases t <;> simp [Int.natCast_mul, Int.natCast_add, Int.neg_mul_neg]
end Go.Proofs.Ytgblbhbmeflckaa.Fl
