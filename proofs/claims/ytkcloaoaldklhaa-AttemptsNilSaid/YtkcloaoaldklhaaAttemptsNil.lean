/- AttemptsNil: no board: the walk. -/
import Derived.Test.YtkcloaoaldklhaaBoard8
namespace Go.Proofs.Ytkcloaoaldklhaa
open Go.RowKit
set_option linter.unusedVariables false
set_option linter.unusedSimpArgs false
set_option maxRecDepth 20000 in
set_option maxHeartbeats 2000000 in
theorem attemptsNil_walk (t : Int) (w0 : (Lit.int .i64 t).wf = true) (node : Int) (w1 : (Lit.int .i64 node).wf = true) (now : Int) (w2 : (Lit.int .i64 now).wf = true) (W : World) :
    Calls Try.prog 6 #[.int .i64 t, .int .i64 node, .int .i64 now] W fun e w' => e = .returned (.bool true) ∧ Below W.heap.size W w' := by
  clear w0 w1 w2
  go_enter Try.func6, Try.ntmps6
  go_wp2_with fail
  refine (atSpeaks_any W).mono ?_
  rintro _ wa ⟨rfl, hb⟩
  have HB := Lib.hid hb
  clear hb
  go_wp2_with fail
  refine (gone_nil node wa).mono ?_
  rintro _ _ ⟨rfl, rfl⟩
  go_wp2_with fail
  refine (winner_nil t wa).mono ?_
  rintro _ _ ⟨rfl, rfl⟩
  go_wp2_with fail
  refine (ready_nil node now wa).mono ?_
  rintro _ wb ⟨v, rfl, ho, hb⟩
  obtain ⟨A, c, rfl⟩ := own_slice ho
  have HB2 := Lib.hid (below_then HB.out HB.out.size hb)
  clear ho hb
  simp only [List.length_nil]
  go_wp2_with fail
  refine (start_nil t node now wb).mono ?_
  rintro _ _ ⟨rfl, rfl⟩
  go_wp2_with fail
  refine (report_nil t 1 1 wb).mono ?_
  rintro _ _ ⟨rfl, rfl⟩
  go_wp2_with fail
  refine (lost_nil t 1 wb).mono ?_
  rintro _ _ ⟨rfl, rfl⟩
  go_wp2_with fail
  refine (fin_nil wb).mono ?_
  rintro _ _ ⟨rfl, rfl⟩
  go_wp2_with fail
  refine (dead_nil wb).mono ?_
  rintro _ _ ⟨rfl, rfl⟩
  go_wp2
  go_ret
  exact ⟨rfl, HB2.out⟩
end Go.Proofs.Ytkcloaoaldklhaa
