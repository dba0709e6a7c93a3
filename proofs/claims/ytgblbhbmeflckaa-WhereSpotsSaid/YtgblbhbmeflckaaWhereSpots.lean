/- WhereSpots: the place of every two coordinates. -/
import Derived.Test.YtgblbhbmeflckaaTurn
namespace Go.Proofs.Ytgblbhbmeflckaa
open Go.RowKit Fl
set_option linter.unusedVariables false
set_option linter.unusedSimpArgs false
theorem ret_cb {a b c d : Nat} {p : Bool} (h : a = c) (k : b = d) : Ending.returned (.tuple #[.complex .f64 a b, .bool p]) = .returned (.tuple #[.complex .f64 c d, .bool p]) := by rw [h, k]
theorem spot_yes (x y : Int) (h1 : -1000 ≤ x) (h2 : x ≤ 1000) (h3 : -1000 ≤ y) (h4 : y ≤ 1000) (w : World) : Calls Try.prog 13 #[.int .i64 x, .int .i64 y] w fun e w' => e = .returned (.tuple #[.complex .f64 (fw x) (fw y), .bool true]) ∧ w = w' := by
  have hf := fi_eq
  have c1 : ¬ x < -1000 := by omega
  have c2 : ¬ 1000 < x := by omega
  have c3 : ¬ y < -1000 := by omega
  have c4 : ¬ 1000 < y := by omega
  go_enter Try.func13, Try.ntmps13
  go_wp2
  go_ret2
  exact ⟨ret_cb rfl rfl, rfl⟩
theorem spot_no (x y : Int) (h : x < -1000 ∨ (-1000 ≤ x ∧ 1000 < x) ∨ (-1000 ≤ x ∧ x ≤ 1000 ∧ y < -1000) ∨ (-1000 ≤ x ∧ x ≤ 1000 ∧ -1000 ≤ y ∧ 1000 < y)) (w : World) : Calls Try.prog 13 #[.int .i64 x, .int .i64 y] w fun e w' => e = .returned (.tuple #[.complex .f64 0 0, .bool false]) ∧ w = w' := by
  rcases h with h | ⟨h, h2⟩ | ⟨h, h2, h3⟩ | ⟨h, h2, h3, h4⟩
  all_goals
    go_enter Try.func13, Try.ntmps13
    go_wp2
    go_ret2
    exact ⟨rfl, rfl⟩
set_option maxHeartbeats 1000000 in
theorem whereSpots_walk (x : Int) (wx : (Lit.int .i64 x).wf = true) (y : Int) (wy : (Lit.int .i64 y).wf = true) (W : World) :
    Calls Try.prog 4 #[.int .i64 x, .int .i64 y] W fun e w' => e = .returned (.bool true) ∧ Below W.heap.size W w' := by
  by_cases hin : -1000 ≤ x ∧ x ≤ 1000 ∧ -1000 ≤ y ∧ y ≤ 1000
  · obtain ⟨h1, h2, h3, h4⟩ := hin
    have hd : distI (pl (fw x)) (pl (fw y)) (pl (fw x)) (pl (fw y)) = 0 := by
      rw [pl_fw h1 h2, pl_fw h3 h4]; simp [distI]
    have HS := fun w => Lib.hid (spot_yes x y h1 h2 h3 h4 w)
    have HL := fun w => Lib.hid (lwhole_eq x y w)
    have HD := fun w => Lib.hid (dist_any (fw x) (fw y) (fw x) (fw y) w)
    rw [hd] at HD
    clear hd wx wy
    generalize fw x = u at *
    generalize fw y = v at *
    go_enter Try.func4, Try.ntmps4
    go_wp2_with (first
      | (go_at_call 10; refine (speaks_any _).mono ?_; rintro e w' ⟨rfl, rfl⟩)
      | (go_at_call 13; with_reducible refine Calls.mono (HS _).out ?_; rintro e w' ⟨rfl, rfl⟩)
      | (go_at_call 14; with_reducible refine Calls.mono (HL _).out ?_; rintro e w' ⟨rfl, rfl⟩)
      | (go_at_call 11; with_reducible refine Calls.mono (HD _).out ?_; rintro e w' ⟨rfl, rfl⟩))
    go_ret
    exact ⟨rfl, Below.refl _ _⟩
  · have hc : x < -1000 ∨ (-1000 ≤ x ∧ 1000 < x) ∨ (-1000 ≤ x ∧ x ≤ 1000 ∧ y < -1000) ∨ (-1000 ≤ x ∧ x ≤ 1000 ∧ -1000 ≤ y ∧ 1000 < y) := by omega
    have HS := fun w => Lib.hid (spot_no x y hc w)
    have HL := fun w => Lib.hid (lwhole_eq 0 0 w)
    rw [fw0] at HL
    clear hin wx wy
    rcases hc with h | ⟨h, h2⟩ | ⟨h, h2, h3⟩ | ⟨h, h2, h3, h4⟩
    all_goals
      go_enter Try.func4, Try.ntmps4
      go_wp2_with (first
        | (go_at_call 10; refine (speaks_any _).mono ?_; rintro e w' ⟨rfl, rfl⟩)
        | (go_at_call 13; with_reducible refine Calls.mono (HS _).out ?_; rintro e w' ⟨rfl, rfl⟩)
        | (go_at_call 14; with_reducible refine Calls.mono (HL _).out ?_; rintro e w' ⟨rfl, rfl⟩))
      go_ret
      exact ⟨rfl, Below.refl _ _⟩
end Go.Proofs.Ytgblbhbmeflckaa
