/- WhereDists: the distance of every two complex numbers, and every one turned. -/
import Derived.Test.YtgblbhbmeflckaaTurn
import Derived.Test.YtgblbhbmeflckaaWhereWays
namespace Go.Proofs.Ytgblbhbmeflckaa
open Go.RowKit Fl Go.Sort
set_option linter.unusedVariables false
set_option linter.unusedSimpArgs false
theorem reg_of {f : FuncId} {args : Array Value} {v : Value} (h : ∀ w, Calls Try.prog f args w fun e w' => e = .returned v ∧ w = w') (w : World) (p : Nat) (os : Array Obj) :
    Calls Try.prog f args (grow (redrawn w p) os) fun e w'' => e = .returned v ∧ ∃ q : Regrown, w'' = grow (redrawn w q.d) q.os :=
  Calls.regrown_of ((h _).mono fun e w' ⟨h1, h2⟩ => ⟨h1, h2 ▸ Below.refl _ _⟩)
set_option maxHeartbeats 1000000 in
theorem whereDists_walk (W : World) (ca : Array Value) (pa : Pt) (ha : RPt W ca.toList pa) (cb : Array Value) (pb : Pt) (hb : RPt W cb.toList pb) (q : Int) (wq : (Lit.int .i64 q).wf = true) :
    Calls Try.prog 6 #[.agg ca, .agg cb, .int .i64 q] W fun e w' => e = .returned (.bool true) ∧ Below W.heap.size W w' := by
  rw [pt_arg ha, pt_arg hb]
  clear ha hb wq
  obtain ⟨ax, ay, ar⟩ := pa
  obtain ⟨bx, by_, br⟩ := pb
  dsimp only
  have HB := Lib.hid (((Below.refl W.heap.size W).alloc (Nat.le_refl _) (.cells #[.int .i64 ax, .int .i64 ay, .bool ar] 23)).alloc (by simp) (.cells #[.int .i64 bx, .int .i64 by_, .bool br] 23))
  have C1 := Lib.hid (((Blk.new W [.int .i64 ax, .int .i64 ay, .bool ar] 23).alloc (.cells #[.int .i64 bx, .int .i64 by_, .bool br] 23)))
  have C2 := Lib.hid (Blk.new (W.alloc (.cells #[.int .i64 ax, .int .i64 ay, .bool ar] 23)) [.int .i64 bx, .int .i64 by_, .bool br] 23)
  rw [show ∀ a b c : Value, ([a, b, c] : List Value).toArray = #[a, b, c] from fun _ _ _ => rfl] at C1 C2
  rw [show (W.alloc (.cells #[.int .i64 ax, .int .i64 ay, .bool ar] 23)).heap.size = W.heap.size + 1 by simp] at C2
  go_enter Try.func6, Try.ntmps6
  go_wp2_with fail
  generalize (W.alloc (.cells #[.int .i64 ax, .int .i64 ay, .bool ar] 23)).alloc (.cells #[.int .i64 bx, .int .i64 by_, .bool br] 23) = w0 at HB C1 C2 ⊢
  refine (speaks_any w0).mono ?_
  rintro e w' ⟨rfl, rfl⟩
  have a0 : w0.cell? ⟨W.heap.size, 0, none⟩ = some (.int .i64 ax) := C1.out.cell 0
  have a1 : w0.cell? ⟨W.heap.size, 1, none⟩ = some (.int .i64 ay) := C1.out.cell 1
  have a2 : w0.cell? ⟨W.heap.size, 2, none⟩ = some (.bool ar) := C1.out.cell 2
  go_wp2_with fail
  refine (number_any ax ay ar w0).mono ?_
  rintro e w1 ⟨rfl, hb1⟩
  have HB1 := Lib.hid (below_then HB.out HB.out.size hb1)
  have D1 := Lib.hid (C1.out.below hb1 C1.out.lt)
  have D2 := Lib.hid (C2.out.below hb1 C2.out.lt)
  clear hb1 a0 a1 a2 HB C1 C2
  go_wp2_with fail
  refine (rturn_any (word ar ax) (word ar ay) q w1).mono ?_
  rintro e w' ⟨rfl, rfl⟩
  have a0 := cell_regrown (D1.out.cell 0 : w1.cell? ⟨W.heap.size, 0, none⟩ = some (.int .i64 ax))
  have a1 := cell_regrown (D1.out.cell 1 : w1.cell? ⟨W.heap.size, 1, none⟩ = some (.int .i64 ay))
  have a2 := cell_regrown (D1.out.cell 2 : w1.cell? ⟨W.heap.size, 2, none⟩ = some (.bool ar))
  have b0 := cell_regrown (D2.out.cell 0 : w1.cell? ⟨W.heap.size + 1, 0, none⟩ = some (.int .i64 bx))
  have b1 := cell_regrown (D2.out.cell 1 : w1.cell? ⟨W.heap.size + 1, 1, none⟩ = some (.int .i64 by_))
  have b2 := cell_regrown (D2.out.cell 2 : w1.cell? ⟨W.heap.size + 1, 2, none⟩ = some (.bool br))
  have N1 := fun p os => Lib.hid (number_reg ax ay ar w1 p os)
  have N2 := fun p os => Lib.hid (number_reg bx by_ br w1 p os)
  have E1 := fun p os => Lib.hid (dist_reg (word ar ax) (word ar ay) (word br bx) (word br by_) w1 p os)
  have E2 := fun p os => Lib.hid (reg_of (rdist_any (word ar ax) (word ar ay) (word br bx) (word br by_)) w1 p os)
  have E3 := fun p os => Lib.hid (reg_of (turn_any (word ar ax) (word ar ay) q) w1 p os)
  have E4 := fun p os => Lib.hid (reg_of (lwhole_eq (turnV (pl (word ar ax)) (pl (word ar ay)) q).1 (turnV (pl (word ar ax)) (pl (word ar ay)) q).2) w1 p os)
  generalize distI (pl (word ar ax)) (pl (word ar ay)) (pl (word br bx)) (pl (word br by_)) = d at E1 E2
  generalize (turnV (pl (word ar ax)) (pl (word ar ay)) q).1 = X at E3 E4 ⊢
  generalize (turnV (pl (word ar ax)) (pl (word ar ay)) q).2 = Y at E3 E4 ⊢
  generalize fw X = fX at E3 E4
  generalize fw Y = fY at E3 E4
  generalize word ar ax = ax', word ar ay = ay', word br bx = bx', word br by_ = by' at N1 N2 E1 E2 E3 ⊢
  go_wp2_with fail
  refine wp_region_quiet_below (by kernel_rfl) (by kernel_rfl) ?_
  repeat (quiet_step (first | with_reducible exact (N1 _ _).out | with_reducible exact (N2 _ _).out | with_reducible exact (E1 _ _).out | with_reducible exact (E2 _ _).out | with_reducible exact (E3 _ _).out | with_reducible exact (E4 _ _).out))
  refine wpQuiet_nil ?_
  intro _ hw'
  obtain ⟨⟨dq, osq⟩, hw''⟩ := hw'
  subst hw''
  have HB2 := Lib.hid (below_then HB1.out HB1.out.size (below_regrown w1 dq osq))
  generalize grow (redrawn w1 dq) osq = w9 at HB2 ⊢
  go_wp2
  go_ret
  exact ⟨rfl, HB2.out⟩
end Go.Proofs.Ytgblbhbmeflckaa
