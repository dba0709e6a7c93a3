/- Places: the contracts of whole, valid, conj, Dist, Place and the reference's Dist. -/
import Derived.Test.YtgblbhbmeflckaaKit
import Derived.Test.YtgblbhbmeflckaaPPlace
import Derived.Laws.FloatArith
import Derived.Laws.ComplexArith
import Derived.Laws.Externs
namespace Go.Proofs.Ytgblbhbmeflckaa
open Go.RowKit Fl
set_option linter.unusedVariables false
set_option linter.unusedSimpArgs false
theorem conv_fi {x : Nat} {n : Int} (h : (D.read x).toInt .zero = some n) (h1 : -9223372036854775808 ≤ n) (h2 : n ≤ 9223372036854775807) (w : World) :
    (convert 46 3 (.float .f64 x)).run Try.prog w = .ok (.int .i64 n) w := by
  refine run_convert_float_int (P := Try.prog) w 46 3 .f64 .i64 x n (by rw [Try.underlying46]; rfl) Try.underlying3 ?_
  unfold floatToIntVal
  rw [show (FloatKind.f64.decode x).toInt .zero = some n from h]
  have : IntKind.i64.min ≤ n ∧ n ≤ IntKind.i64.max := ⟨h1, h2⟩
  simp only [this, and_self, if_true]
theorem fi_eq (n : Int) : floatOfInt .f64 n = fw n := rfl
/-- The tests, in the walk's own spelling. -/
abbrev ord (x y : Nat) : Option Ordering := FloatKind.f64.format.order x y
theorem whole_any (x : Nat) (w : World) : Calls Try.prog 37 #[.float .f64 x] w fun e w' => e = .returned (.bool (pl x).isSome) ∧ w = w' := by
  rcases kin x with ⟨n, h1, h2, ht, hs, c1, c2, e⟩ | ⟨h1, h2, h3, h4⟩ | ⟨h1, h2, h3, h4⟩ | ⟨h1, h2, h3, h4⟩
  · have hcv := conv_fi ht (by omega) (by omega)
    have hfi := fi_eq n
    rcases e with ⟨e1, e2, e3⟩ | ⟨e1, e2, e3⟩ <;> rcases c1 with c1 | c1 <;> rcases c2 with c2 | c2
    all_goals
      rw [e3]
      clear e3 hs ht e2
      have c1 : FloatKind.f64.format.order x 4652007308841189376 = _ := c1
      have c2 : FloatKind.f64.format.order x 13875379345695965184 = _ := c2
      have e1 := (show FloatKind.f64.format.order x (fw n) = FloatKind.f64.format.order x (fw n) from rfl) ▸ e1
      go_enter Try.func37, Try.ntmps37
      go_wp2
      go_ret
      exact ⟨rfl, rfl⟩
  all_goals
    rw [h4]
    clear h4
    have h2 : FloatKind.f64.format.order x 4652007308841189376 = _ := h2
    have h3 : FloatKind.f64.format.order x 13875379345695965184 = _ := h3
    go_enter Try.func37, Try.ntmps37
    go_wp2
    go_ret
    exact ⟨rfl, rfl⟩
theorem valid_any (a b : Nat) (w : World) : Calls Try.prog 25 #[.complex .f64 a b] w fun e w' => e = .returned (.bool ((pl a).isSome && (pl b).isSome)) ∧ w = w' := by
  have HA := fun w => Lib.hid (whole_any a w)
  have HB := fun w => Lib.hid (whole_any b w)
  generalize (pl a).isSome = p at HA ⊢
  generalize (pl b).isSome = q at HB ⊢
  cases p <;> cases q
  all_goals
    go_enter Try.func25, Try.ntmps25
    go_wp2_with (first | (go_at_call 37; with_reducible refine Calls.mono (HA _).out ?_; rintro e w' ⟨rfl, rfl⟩) | (go_at_call 37; with_reducible refine Calls.mono (HB _).out ?_; rintro e w' ⟨rfl, rfl⟩))
    go_ret
    exact ⟨rfl, rfl⟩
def flip (b : Nat) : Nat := b ^^^ 2 ^ 63
theorem conj_any (a b : Nat) (w : World) : Calls Try.prog 26 #[.complex .f64 a b] w fun e w' => e = .returned (.complex .f64 a (flip b)) ∧ w = w' := by
  have hneg : ∀ w, (Op.unary .neg (.float .f64 b)).run Try.prog w = .ok (.float .f64 (flip b)) w := fun w => rfl
  go_enter Try.func26, Try.ntmps26
  go_wp2
  go_ret
  exact ⟨rfl, rfl⟩
theorem sub_run {a b c d r i : Nat} (h1 : D.sub a c = some r) (h2 : D.sub b d = some i) (w : World) : (binOp .sub 26 (.complex .f64 a b) (.complex .f64 c d)).run Try.prog w = .ok (.complex .f64 r i) w := by
  refine run_complex_sum w .sub (.inr rfl) 26 .f64 a b c d r i ?_
  unfold cSumBits
  rw [show floatBits .sub .f64 a c = some r from h1, show floatBits .sub .f64 b d = some i from h2]
  rfl
theorem mul_run {x y u v ac bd re ad bc im : Nat} (h1 : D.mul x u = some ac) (h2 : D.mul y v = some bd) (h3 : D.sub ac bd = some re) (h4 : D.mul x v = some ad) (h5 : D.mul y u = some bc) (h6 : D.add ad bc = some im) (w : World) :
    (binOp .mul 26 (.complex .f64 x y) (.complex .f64 u v)).run Try.prog w = .ok (.complex .f64 re im) w := by
  refine run_complex_mul w 26 x y u v re im ?_
  unfold cMulBits
  rw [show floatBits .mul .f64 x u = some ac from h1, show floatBits .mul .f64 y v = some bd from h2, show floatBits .mul .f64 x v = some ad from h4, show floatBits .mul .f64 y u = some bc from h5]
  simp only [Option.bind_some]
  rw [show floatBits .sub .f64 ac bd = some re from h3, show floatBits .add .f64 ad bc = some im from h6]
  rfl
theorem dist_any (a b c d : Nat) (w : World) : Calls Try.prog 11 #[.complex .f64 a b, .complex .f64 c d] w fun e w' => e = .returned (.int .i64 (distI (pl a) (pl b) (pl c) (pl d))) ∧ w = w' := by
  have H1 := fun w => Lib.hid (valid_any a b w)
  have H2 := fun w => Lib.hid (valid_any c d w)
  cases ha : pl a with
  | none =>
    rw [ha] at H1
    rw [show distI none (pl b) (pl c) (pl d) = -1 from rfl]
    clear H2
    go_enter Try.func11, Try.ntmps11
    go_wp2_with (go_at_call 25; with_reducible refine Calls.mono (H1 _).out ?_; rintro e w' ⟨rfl, rfl⟩)
    go_ret
    exact ⟨rfl, rfl⟩
  | some n =>
  cases hb : pl b with
  | none =>
    rw [ha, hb] at H1
    rw [show distI (some n) none (pl c) (pl d) = -1 from rfl]
    clear H2
    go_enter Try.func11, Try.ntmps11
    go_wp2_with (go_at_call 25; with_reducible refine Calls.mono (H1 _).out ?_; rintro e w' ⟨rfl, rfl⟩)
    go_ret
    exact ⟨rfl, rfl⟩
  | some m =>
  rw [ha, hb] at H1
  cases hc : pl c with
  | none =>
    rw [hc] at H2
    rw [show distI (some n) (some m) none (pl d) = -1 from rfl]
    go_enter Try.func11, Try.ntmps11
    go_wp2_with (first | (go_at_call 25; with_reducible refine Calls.mono (H1 _).out ?_; rintro e w' ⟨rfl, rfl⟩) | (go_at_call 25; with_reducible refine Calls.mono (H2 _).out ?_; rintro e w' ⟨rfl, rfl⟩))
    go_ret
    exact ⟨rfl, rfl⟩
  | some p =>
  cases hd : pl d with
  | none =>
    rw [hc, hd] at H2
    rw [show distI (some n) (some m) (some p) none = -1 from rfl]
    go_enter Try.func11, Try.ntmps11
    go_wp2_with (first | (go_at_call 25; with_reducible refine Calls.mono (H1 _).out ?_; rintro e w' ⟨rfl, rfl⟩) | (go_at_call 25; with_reducible refine Calls.mono (H2 _).out ?_; rintro e w' ⟨rfl, rfl⟩))
    go_ret
    exact ⟨rfl, rfl⟩
  | some q =>
  rw [hc, hd] at H2
  obtain ⟨r, s1, N, e1, i1, v1, b1⟩ := sub_w ha hc
  obtain ⟨i, t1, M, e2, i2, v2, b2⟩ := sub_w hb hd
  obtain ⟨ac, bd, re, ad, bc, im, u, V, m1, m2, m3, m4, m5, m6, i3, v3⟩ := prod_w i1 i2 b1 b2
  have hsub := sub_run e1 e2
  have hmul := mul_run (u := r) (v := flip i) m1 m2 m3 m4 m5 m6
  have k1 : N * N ≤ 2000 * 2000 := Nat.mul_le_mul b1 b1
  have k2 : M * M ≤ 2000 * 2000 := Nat.mul_le_mul b2 b2
  have hcv := conv_fi (toInt_is i3) (by rw [v3]; omega) (by rw [v3]; omega)
  rw [v3, dist_val v1 v2] at hcv
  have HV : Hid (distI (some n) (some m) (some p) (some q) = (n - p) * (n - p) + (m - q) * (m - q)) := Lib.hid rfl
  clear ha hb hc hd e1 e2 m1 m2 m3 m4 m5 m6 i1 i2 i3 v1 v2 v3 b1 b2 k1 k2
  go_enter Try.func11, Try.ntmps11
  go_wp2_with (first | (go_at_call 25; with_reducible refine Calls.mono (H1 _).out ?_; rintro e w' ⟨rfl, rfl⟩) | (go_at_call 25; with_reducible refine Calls.mono (H2 _).out ?_; rintro e w' ⟨rfl, rfl⟩) | (go_at_call 26; refine (conj_any _ _ _).mono ?_; rintro e w' ⟨rfl, rfl⟩))
  go_ret
  exact ⟨ret_int HV.out.symm, rfl⟩
end Go.Proofs.Ytgblbhbmeflckaa
