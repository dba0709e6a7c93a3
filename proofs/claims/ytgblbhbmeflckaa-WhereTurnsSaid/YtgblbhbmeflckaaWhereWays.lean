/- WhereWays: no way around is shorter than the way. -/
import Derived.Test.YtgblbhbmeflckaaWhere2
import Derived.Lib.QuietBelow
namespace Go.Proofs.Ytgblbhbmeflckaa
open Go.RowKit Fl Go.Sort
set_option linter.unusedVariables false
set_option linter.unusedSimpArgs false
theorem dist_reg (a b c d : Nat) (w : World) (p : Nat) (os : Array Obj) : Calls Try.prog 11 #[.complex .f64 a b, .complex .f64 c d] (grow (redrawn w p) os) fun e w'' => e = .returned (.int .i64 (distI (pl a) (pl b) (pl c) (pl d))) ∧ ∃ q : Regrown, w'' = grow (redrawn w q.d) q.os :=
  Calls.regrown_of ((dist_any a b c d _).mono fun e w' ⟨h1, h2⟩ => ⟨h1, h2 ▸ Below.refl _ _⟩)
theorem number_reg (x y : Int) (raw : Bool) (w : World) (p : Nat) (os : Array Obj) : Calls Try.prog 12 #[.agg #[.int .i64 x, .int .i64 y, .bool raw]] (grow (redrawn w p) os) fun e w'' => e = .returned (.complex .f64 (word raw x) (word raw y)) ∧ ∃ q : Regrown, w'' = grow (redrawn w q.d) q.os :=
  Calls.regrown_of (number_any x y raw _)
theorem pt_arg {cs : Array Value} {p : Pt} {W : World} (h : RPt W cs.toList p) : cs = #[.int .i64 p.x, .int .i64 p.y, .bool p.raw] := by
  obtain ⟨l⟩ := cs
  obtain ⟨h, _⟩ := h
  have h : l = p.cells := h
  rw [h]; rfl
theorem dist_nn {a b c d : Option Int} : -1 ≤ distI a b c d := by
  unfold distI
  split
  · rename_i x y z u
    have h1 : 0 ≤ (x - z) * (x - z) := by have : ((x - z).natAbs * (x - z).natAbs : Nat) = (x - z) * (x - z) := Int.natAbs_mul_self; omega
    have h2 : 0 ≤ (y - u) * (y - u) := by have : ((y - u).natAbs * (y - u).natAbs : Nat) = (y - u) * (y - u) := Int.natAbs_mul_self; omega
    omega
  · omega
theorem dist_hi (a b c d : Nat) : distI (pl a) (pl b) (pl c) (pl d) ≤ 8000000 := by
  generalize ha : pl a = x
  generalize hb : pl b = y
  generalize hc : pl c = z
  generalize hd : pl d = u
  unfold distI
  split
  · obtain ⟨a1, a2, _⟩ := pl_is ha
    obtain ⟨b1, b2, _⟩ := pl_is hb
    obtain ⟨c1, c2, _⟩ := pl_is hc
    obtain ⟨d1, d2, _⟩ := pl_is hd
    rename_i x y z u _ _ _ _
    have := sq_bd (x := x - z) (by omega) (by omega)
    have := sq_bd (x := y - u) (by omega) (by omega)
    omega
  · omega
theorem ways (a b c d e f : Option Int) : distI a b e f < 0 ∨ distI a b c d < 0 ∨ distI c d e f < 0 ∨ distI a b e f ≤ 2 * (distI a b c d + distI c d e f) := by
  cases a <;> cases b <;> cases c <;> cases d <;> cases e <;> cases f <;> try (simp [distI]; done)
  rename_i a b c d e f
  right; right; right
  simp only [distI]
  have sq : ∀ p q r : Int, (p - r) * (p - r) ≤ 2 * ((p - q) * (p - q) + (q - r) * (q - r)) := by
    intro p q r
    have h : 0 ≤ (p - q - (q - r)) * (p - q - (q - r)) := by
      have : ((p - q - (q - r)).natAbs * (p - q - (q - r)).natAbs : Nat) = (p - q - (q - r)) * (p - q - (q - r)) := Int.natAbs_mul_self
      omega
    have e1 : (p - r) = (p - q) + (q - r) := by omega
    rw [e1]
    generalize p - q = s at *
    generalize q - r = t at *
    have e2 : (s + t) * (s + t) = s * s + s * t + t * s + t * t := by rw [Int.add_mul, Int.mul_add, Int.mul_add]; omega
    have e3 : (s - t) * (s - t) = s * s - s * t - t * s + t * t := by rw [Int.sub_mul, Int.mul_sub, Int.mul_sub]; omega
    rw [e2]
    rw [e3] at h
    omega
  have h1 := sq a c e
  have h2 := sq b d f
  omega
set_option maxHeartbeats 1000000 in
theorem whereWays_walk (W : World) (ca : Array Value) (pa : Pt) (ha : RPt W ca.toList pa) (cb : Array Value) (pb : Pt) (hb : RPt W cb.toList pb) (cc : Array Value) (pc : Pt) (hc : RPt W cc.toList pc) :
    Calls Try.prog 3 #[.agg ca, .agg cb, .agg cc] W fun e w' => e = .returned (.bool true) ∧ Below W.heap.size W w' := by
  rw [pt_arg ha, pt_arg hb, pt_arg hc]
  clear ha hb hc
  obtain ⟨ax, ay, ar⟩ := pa
  obtain ⟨bx, by_, br⟩ := pb
  obtain ⟨cx, cy, cr⟩ := pc
  dsimp only
  have HW := Lib.hid (ways (pl (word ar ax)) (pl (word ar ay)) (pl (word br bx)) (pl (word br by_)) (pl (word cr cx)) (pl (word cr cy)))
  have l1 := dist_nn (a := pl (word ar ax)) (b := pl (word ar ay)) (c := pl (word cr cx)) (d := pl (word cr cy))
  have l2 := dist_nn (a := pl (word ar ax)) (b := pl (word ar ay)) (c := pl (word br bx)) (d := pl (word br by_))
  have l3 := dist_nn (a := pl (word br bx)) (b := pl (word br by_)) (c := pl (word cr cx)) (d := pl (word cr cy))
  have u1 := dist_hi (word ar ax) (word ar ay) (word cr cx) (word cr cy)
  have u2 := dist_hi (word ar ax) (word ar ay) (word br bx) (word br by_)
  have u3 := dist_hi (word br bx) (word br by_) (word cr cx) (word cr cy)
  have HB := Lib.hid ((((Below.refl W.heap.size W).alloc (Nat.le_refl _) (.cells #[.int .i64 ax, .int .i64 ay, .bool ar] 23)).alloc (by simp) (.cells #[.int .i64 bx, .int .i64 by_, .bool br] 23)).alloc (by simp; omega) (.cells #[.int .i64 cx, .int .i64 cy, .bool cr] 23))
  have C1 := Lib.hid ((((Blk.new W [.int .i64 ax, .int .i64 ay, .bool ar] 23).alloc (.cells #[.int .i64 bx, .int .i64 by_, .bool br] 23)).alloc (.cells #[.int .i64 cx, .int .i64 cy, .bool cr] 23)))
  have C2 := Lib.hid (((Blk.new (W.alloc (.cells #[.int .i64 ax, .int .i64 ay, .bool ar] 23)) [.int .i64 bx, .int .i64 by_, .bool br] 23).alloc (.cells #[.int .i64 cx, .int .i64 cy, .bool cr] 23)))
  have C3 := Lib.hid (Blk.new ((W.alloc (.cells #[.int .i64 ax, .int .i64 ay, .bool ar] 23)).alloc (.cells #[.int .i64 bx, .int .i64 by_, .bool br] 23)) [.int .i64 cx, .int .i64 cy, .bool cr] 23)
  rw [show ∀ a b c : Value, ([a, b, c] : List Value).toArray = #[a, b, c] from fun _ _ _ => rfl] at C1 C2 C3
  rw [show (W.alloc (.cells #[.int .i64 ax, .int .i64 ay, .bool ar] 23)).heap.size = W.heap.size + 1 by simp] at C2
  rw [show ((W.alloc (.cells #[.int .i64 ax, .int .i64 ay, .bool ar] 23)).alloc (.cells #[.int .i64 bx, .int .i64 by_, .bool br] 23)).heap.size = W.heap.size + 2 by simp] at C3
  go_enter Try.func3, Try.ntmps3
  go_wp2_with (go_at_call 10; refine (speaks_any _).mono ?_; rintro e w' ⟨rfl, rfl⟩)
  generalize ((W.alloc (.cells #[.int .i64 ax, .int .i64 ay, .bool ar] 23)).alloc (.cells #[.int .i64 bx, .int .i64 by_, .bool br] 23)).alloc (.cells #[.int .i64 cx, .int .i64 cy, .bool cr] 23) = w0 at HB C1 C2 C3 ⊢
  have a0 := cell_regrown (C1.out.cell 0 : w0.cell? ⟨W.heap.size, 0, none⟩ = some (.int .i64 ax))
  have a1 := cell_regrown (C1.out.cell 1 : w0.cell? ⟨W.heap.size, 1, none⟩ = some (.int .i64 ay))
  have a2 := cell_regrown (C1.out.cell 2 : w0.cell? ⟨W.heap.size, 2, none⟩ = some (.bool ar))
  have b0 := cell_regrown (C2.out.cell 0 : w0.cell? ⟨W.heap.size + 1, 0, none⟩ = some (.int .i64 bx))
  have b1 := cell_regrown (C2.out.cell 1 : w0.cell? ⟨W.heap.size + 1, 1, none⟩ = some (.int .i64 by_))
  have b2 := cell_regrown (C2.out.cell 2 : w0.cell? ⟨W.heap.size + 1, 2, none⟩ = some (.bool br))
  have c0 := cell_regrown (C3.out.cell 0 : w0.cell? ⟨W.heap.size + 2, 0, none⟩ = some (.int .i64 cx))
  have c1 := cell_regrown (C3.out.cell 1 : w0.cell? ⟨W.heap.size + 2, 1, none⟩ = some (.int .i64 cy))
  have c2 := cell_regrown (C3.out.cell 2 : w0.cell? ⟨W.heap.size + 2, 2, none⟩ = some (.bool cr))
  have N1 := fun p os => Lib.hid (number_reg ax ay ar w0 p os)
  have N2 := fun p os => Lib.hid (number_reg bx by_ br w0 p os)
  have N3 := fun p os => Lib.hid (number_reg cx cy cr w0 p os)
  have D1 := fun p os => Lib.hid (dist_reg (word ar ax) (word ar ay) (word cr cx) (word cr cy) w0 p os)
  have D2 := fun p os => Lib.hid (dist_reg (word ar ax) (word ar ay) (word br bx) (word br by_) w0 p os)
  have D3 := fun p os => Lib.hid (dist_reg (word br bx) (word br by_) (word cr cx) (word cr cy) w0 p os)
  generalize distI (pl (word ar ax)) (pl (word ar ay)) (pl (word cr cx)) (pl (word cr cy)) = d1 at *
  generalize distI (pl (word ar ax)) (pl (word ar ay)) (pl (word br bx)) (pl (word br by_)) = d2 at *
  generalize distI (pl (word br bx)) (pl (word br by_)) (pl (word cr cx)) (pl (word cr cy)) = d3 at *
  generalize word ar ax = ax', word ar ay = ay', word br bx = bx', word br by_ = by', word cr cx = cx', word cr cy = cy' at N1 N2 N3 D1 D2 D3
  refine wp_region_quiet_below (by kernel_rfl) (by kernel_rfl) ?_
  repeat (quiet_step (first | with_reducible exact (N1 _ _).out | with_reducible exact (N2 _ _).out | with_reducible exact (N3 _ _).out | with_reducible exact (D1 _ _).out | with_reducible exact (D2 _ _).out | with_reducible exact (D3 _ _).out))
  refine wpQuiet_nil ?_
  intro _ hw'
  obtain ⟨⟨dq, osq⟩, hw''⟩ := hw'
  subst hw''
  have HB2 := Lib.hid (below_then HB.out HB.out.size (below_regrown w0 dq osq))
  generalize grow (redrawn w0 dq) osq = w9 at HB2 ⊢
  clear a0 a1 a2 b0 b1 b2 c0 c1 c2 N1 N2 N3 D1 D2 D3
  rcases HW.out with h | h | h | h
  · go_wp2
    go_ret
    exact ⟨rfl, HB2.out⟩
  · by_cases h0 : d1 < 0
    all_goals
      go_wp2
      go_ret
      exact ⟨rfl, HB2.out⟩
  · by_cases h0 : d1 < 0
    · go_wp2
      go_ret
      exact ⟨rfl, HB2.out⟩
    · by_cases h3 : d2 < 0
      all_goals
        go_wp2
        go_ret
        exact ⟨rfl, HB2.out⟩
  · by_cases h0 : d1 < 0
    · go_wp2
      go_ret
      exact ⟨rfl, HB2.out⟩
    · by_cases h3 : d2 < 0
      · go_wp2
        go_ret
        exact ⟨rfl, HB2.out⟩
      · by_cases h4 : d3 < 0
        all_goals
          go_wp2
          go_ret
          exact ⟨rfl, HB2.out⟩
end Go.Proofs.Ytgblbhbmeflckaa
