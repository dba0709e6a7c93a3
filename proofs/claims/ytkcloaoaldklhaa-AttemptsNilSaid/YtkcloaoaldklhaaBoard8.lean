/- attempts: what no board answers. (Under way.) -/
import Derived.Test.YtkcloaoaldklhaaBoardSpk
namespace Go.Proofs.Ytkcloaoaldklhaa
open Go.RowKit
set_option linter.unusedVariables false
set_option linter.unusedSimpArgs false
set_option maxHeartbeats 1000000 in
theorem report_nil (t n how : Int) (w : World) : Calls Try.prog 10 #[.pointer none, .int .i64 t, .int .i64 n, .int .i64 how] w fun e w' => e = .returned (.bool false) ∧ w = w' := by
  go_enter Try.func10, Try.ntmps10
  go_wp2_with fail
  refine (has_nil t w).mono ?_
  rintro _ _ ⟨rfl, rfl⟩
  go_wp2
  go_ret
  exact ⟨rfl, rfl⟩
set_option maxHeartbeats 1000000 in
theorem lost_nil (t n : Int) (w : World) : Calls Try.prog 12 #[.pointer none, .int .i64 t, .int .i64 n] w fun e w' => e = .returned (.bool false) ∧ w = w' := by
  go_enter Try.func12, Try.ntmps12
  go_wp2_with fail
  refine (has_nil t w).mono ?_
  rintro _ _ ⟨rfl, rfl⟩
  go_wp2
  go_ret
  exact ⟨rfl, rfl⟩
set_option maxHeartbeats 1000000 in
theorem fin_nil (w : World) : Calls Try.prog 15 #[.pointer none] w fun e w' => e = .returned (.bool false) ∧ w = w' := by
  go_enter Try.func15, Try.ntmps15
  go_wp2
  go_ret
  exact ⟨rfl, rfl⟩
set_option maxHeartbeats 1000000 in
theorem gone_nil (node : Int) (w : World) : Calls Try.prog 11 #[.pointer none, .int .i64 node] w fun e w' => e = .returned (.tuple #[]) ∧ w = w' := by
  go_enter Try.func11, Try.ntmps11
  go_wp2
  exact bodyPost_ret (results_none rfl _ _ _) rfl ⟨rfl, rfl⟩
end Go.Proofs.Ytkcloaoaldklhaa
