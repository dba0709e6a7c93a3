/- LeasesNil: no table: the walk. -/
import Derived.Test.YtngpmlolpigeoaaLeaseSpk
namespace Go.Proofs.Ytngpmlolpigeoaa
open Go.RowKit Go.Maps
set_option linter.unusedVariables false
set_option linter.unusedSimpArgs false
set_option maxRecDepth 20000 in
set_option maxHeartbeats 2000000 in
theorem leasesNil_walk (p : ByteArray) (w0 : p.size ≤ 140737488351232) (c : Int) (w1 : (Lit.int .i64 c).wf = true) (now : Int) (w2 : (Lit.int .i64 now).wf = true) (W : World) :
    Calls Try.prog 5 #[.string p, .int .i64 c, .int .i64 now] W fun e w' => e = .returned (.bool true) ∧ Below W.heap.size W w' := by
  clear w0 w1 w2
  go_enter Try.func5, Try.ntmps5
  go_wp2_with fail
  refine (speaks_any W).mono ?_
  rintro _ wa ⟨rfl, hb⟩
  have HB := Lib.hid hb
  clear hb
  go_wp2_with fail
  refine (grant_nil p c now wa).mono ?_
  rintro _ _ ⟨rfl, rfl⟩
  go_wp2_with fail
  refine (renew_nil c now wa).mono ?_
  rintro _ _ ⟨rfl, rfl⟩
  go_wp2_with fail
  refine (drop_nil p wa).mono ?_
  rintro _ _ ⟨rfl, rfl⟩
  go_wp2_with fail
  refine (holder_nil p wa).mono ?_
  rintro _ _ ⟨rfl, rfl⟩
  go_wp2_with fail
  refine (due_nil now wa).mono ?_
  rintro _ _ ⟨rfl, rfl⟩
  go_wp2
  go_ret
  exact ⟨rfl, HB.out⟩
end Go.Proofs.Ytngpmlolpigeoaa
