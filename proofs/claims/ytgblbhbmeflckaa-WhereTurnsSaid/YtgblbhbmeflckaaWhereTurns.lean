/- WhereTurns: turning changes no distance; four quarters are a whole turn. -/
import Derived.Test.YtgblbhbmeflckaaTurn
import Derived.Test.YtgblbhbmeflckaaWhereWays
namespace Go.Proofs.Ytgblbhbmeflckaa
open Go.RowKit Fl Go.Sort
set_option linter.unusedVariables false
set_option linter.unusedSimpArgs false
theorem ord_fw {x : Nat} {n : Int} (h : pl x = some n) : FloatKind.f64.format.order (fw n) x = some .eq := by
  obtain ⟨_, _, s, N, hN, hI, rfl⟩ := pl_is h
  have hF := is_fw (n := val s N) (by rw [val_natAbs]; exact Nat.lt_of_le_of_lt hN (by decide))
  have := order_is hF hI
  rw [val_dec] at this
  show D.order _ _ = _
  rw [this]; simp
theorem distI_comm (a b c d : Option Int) : distI a b c d = distI c d a b := by
  cases a <;> cases b <;> cases c <;> cases d <;> try rfl
  rename_i a b c d
  simp only [distI]
  rw [show (a - c) * (a - c) = (c - a) * (c - a) by rw [← Int.neg_sub c a, Int.neg_mul_neg], show (b - d) * (b - d) = (d - b) * (d - b) by rw [← Int.neg_sub d b, Int.neg_mul_neg]]
def sqd (p q : Int × Int) : Int := (p.1 - q.1) * (p.1 - q.1) + (p.2 - q.2) * (p.2 - q.2)
theorem rot_sqd (k : Nat) (p q : Int × Int) : sqd (rot k p) (rot k q) = sqd p q := by
  induction k with
  | zero => rfl
  | succ k ih =>
    rw [← ih]
    show (-(rot k p).2 - -(rot k q).2) * (-(rot k p).2 - -(rot k q).2) + ((rot k p).1 - (rot k q).1) * ((rot k p).1 - (rot k q).1) = _
    unfold sqd
    generalize (rot k p).2 = a
    generalize (rot k q).2 = b
    generalize ((rot k p).1 - (rot k q).1) * ((rot k p).1 - (rot k q).1) = c
    rw [show -a - -b = -(a - b) by omega, Int.neg_mul_neg]
    omega
theorem rot_add (m k : Nat) (p : Int × Int) : rot m (rot k p) = rot (m + k) p := by
  induction m with
  | zero => rw [Nat.zero_add]; rfl
  | succ m ih =>
    rw [Nat.succ_add]
    show (-(rot m (rot k p)).2, (rot m (rot k p)).1) = (-(rot (m + k) p).2, (rot (m + k) p).1)
    rw [ih]
theorem rot_four (p : Int × Int) : rot 4 p = p := by
  obtain ⟨a, b⟩ := p
  simp [rot]
theorem rot_back (q : Int) (p : Int × Int) : rot ((4 - q.tmod 4) % 4).toNat (rot (q % 4).toNat p) = p := by
  rw [rot_add]
  have h1 := Int.tmod_lt_of_pos q (b := 4) (by decide)
  have h2 := Int.lt_tmod_of_pos q (b := 4) (by decide)
  have h3 := Int.tmod_add_mul_tdiv q 4
  have h4 := Int.emod_nonneg q (b := 4) (by decide)
  have h5 := Int.emod_lt_of_pos q (b := 4) (by decide)
  have : ((4 - q.tmod 4) % 4).toNat + (q % 4).toNat = 0 ∨ ((4 - q.tmod 4) % 4).toNat + (q % 4).toNat = 4 := by omega
  rcases this with h | h
  · rw [h]; rfl
  · rw [h]; exact rot_four p
set_option maxHeartbeats 1000000 in
theorem whereTurns_walk (W : World) (ca : Array Value) (pa : Pt) (ha : RPt W ca.toList pa) (cb : Array Value) (pb : Pt) (hb : RPt W cb.toList pb) (q : Int) (wq : (Lit.int .i64 q).wf = true) :
    Calls Try.prog 5 #[.agg ca, .agg cb, .int .i64 q] W fun e w' => e = .returned (.bool true) ∧ Below W.heap.size W w' := by
  rw [pt_arg ha, pt_arg hb]
  clear ha hb wq
  obtain ⟨ax, ay, ar⟩ := pa
  obtain ⟨bx, by_, br⟩ := pb
  dsimp only
  have HB := Lib.hid (((Below.refl W.heap.size W).alloc (Nat.le_refl _) (.cells #[.int .i64 ax, .int .i64 ay, .bool ar] 23)).alloc (by simp) (.cells #[.int .i64 bx, .int .i64 by_, .bool br] 23))
  have C1 := Lib.hid (((Blk.new W [.int .i64 ax, .int .i64 ay, .bool ar] 23).alloc (.cells #[.int .i64 bx, .int .i64 by_, .bool br] 23)))
  have C2 := Lib.hid (Blk.new (W.alloc (.cells #[.int .i64 ax, .int .i64 ay, .bool ar] 23)) [.int .i64 bx, .int .i64 by_, .bool br] 23)
  rw [show ∀ a b c : Value, ([a, b, c] : List Value).toArray = #[a, b, c] from fun _ _ _ => rfl] at C1 C2
  rw [show (W.alloc (.cells #[.int .i64 ax, .int .i64 ay, .bool ar] 23)).heap.size = W.heap.size + 1 by simp] at C2
  go_enter Try.func5, Try.ntmps5
  go_wp2_with fail
  generalize (W.alloc (.cells #[.int .i64 ax, .int .i64 ay, .bool ar] 23)).alloc (.cells #[.int .i64 bx, .int .i64 by_, .bool br] 23) = w1 at HB C1 C2 ⊢
  refine (speaks_any w1).mono ?_
  rintro e w' ⟨rfl, rfl⟩
  have a0 := cell_regrown (C1.out.cell 0 : w1.cell? ⟨W.heap.size, 0, none⟩ = some (.int .i64 ax))
  have a1 := cell_regrown (C1.out.cell 1 : w1.cell? ⟨W.heap.size, 1, none⟩ = some (.int .i64 ay))
  have a2 := cell_regrown (C1.out.cell 2 : w1.cell? ⟨W.heap.size, 2, none⟩ = some (.bool ar))
  have b0 := cell_regrown (C2.out.cell 0 : w1.cell? ⟨W.heap.size + 1, 0, none⟩ = some (.int .i64 bx))
  have b1 := cell_regrown (C2.out.cell 1 : w1.cell? ⟨W.heap.size + 1, 1, none⟩ = some (.int .i64 by_))
  have b2 := cell_regrown (C2.out.cell 2 : w1.cell? ⟨W.heap.size + 1, 2, none⟩ = some (.bool br))
  have N1 := fun p os => Lib.hid (number_reg ax ay ar w1 p os)
  have N2 := fun p os => Lib.hid (number_reg bx by_ br w1 p os)
  generalize word ar ax = au, word ar ay = av, word br bx = bu, word br by_ = bv at N1 N2
  go_wp2_with fail
  refine wp_region_quiet_below (by kernel_rfl) (by kernel_rfl) ?_
  repeat (quiet_step (first | with_reducible exact (N1 _ _).out | with_reducible exact (N2 _ _).out))
  refine wpQuiet_nil ?_
  intro _ hw'
  obtain ⟨⟨dq, osq⟩, hw''⟩ := hw'
  subst hw''
  have HB2 := Lib.hid (below_then HB.out HB.out.size (below_regrown w1 dq osq))
  generalize grow (redrawn w1 dq) osq = w9 at HB2 ⊢
  clear a0 a1 a2 b0 b1 b2 N1 N2 HB C1 C2
  have D1 := fun w => Lib.hid (dist_any au av bu bv w)
  have D2 := fun w => Lib.hid (dist_any bu bv au av w)
  have hdc := distI_comm (pl bu) (pl bv) (pl au) (pl av)
  rw [hdc] at D2
  clear hdc
  have hdl := dist_nn (a := pl au) (b := pl av) (c := pl bu) (d := pl bv)
  have hii : ∀ x : Int, (x != x) = false := fun x => by simp
  rcases (show (∃ x y z u, pl au = some x ∧ pl av = some y ∧ pl bu = some z ∧ pl bv = some u) ∨ distI (pl au) (pl av) (pl bu) (pl bv) = -1 by
    cases pl au <;> cases pl av <;> cases pl bu <;> cases pl bv <;> simp [distI]) with ⟨x, y, z, u, h1, h2, h3, h4⟩ | h
  · obtain ⟨x1, x2, _⟩ := pl_is h1
    obtain ⟨y1, y2, _⟩ := pl_is h2
    obtain ⟨z1, z2, _⟩ := pl_is h3
    obtain ⟨u1, u2, _⟩ := pl_is h4
    have o1 := ord_fw h1
    have o2 := ord_fw h2
    have T1 := fun w => Lib.hid (turn_any au av q w)
    have T2 := fun w => Lib.hid (turn_any bu bv q w)
    obtain ⟨k, hk⟩ : ∃ k, k = (q % 4).toNat := ⟨_, rfl⟩
    have hb := rot_back q (x, y)
    rw [h1, h2, show turnV (some x) (some y) q = rot (q % 4).toNat (x, y) from rfl] at T1
    rw [h3, h4, show turnV (some z) (some u) q = rot (q % 4).toNat (z, u) from rfl] at T2
    rw [h1, h2, h3, h4, show distI (some x) (some y) (some z) (some u) = sqd (x, y) (z, u) from rfl] at D1 D2
    rw [h1, h2, h3, h4, show distI (some x) (some y) (some z) (some u) = sqd (x, y) (z, u) from rfl] at hdl
    rw [← hk] at T1 T2 hb
    have hsq := rot_sqd k (x, y) (z, u)
    obtain ⟨r1, r2, r3, r4⟩ := rot_bd k (x, y) x1 x2 y1 y2
    obtain ⟨s1, s2, s3, s4⟩ := rot_bd k (z, u) z1 z2 u1 u2
    have D3 := fun w => Lib.hid (dist_any (fw (rot k (x, y)).1) (fw (rot k (x, y)).2) (fw (rot k (z, u)).1) (fw (rot k (z, u)).2) w)
    rw [pl_fw r1 r2, pl_fw r3 r4, pl_fw s1 s2, pl_fw s3 s4, show distI (some (rot k (x, y)).1) (some (rot k (x, y)).2) (some (rot k (z, u)).1) (some (rot k (z, u)).2) = sqd (rot k (x, y)) (rot k (z, u)) from rfl, hsq] at D3
    have T3 := fun w => Lib.hid (turn_any (fw (rot k (x, y)).1) (fw (rot k (x, y)).2) (4 - q.tmod 4) w)
    rw [pl_fw r1 r2, pl_fw r3 r4, show turnV (some (rot k (x, y)).1) (some (rot k (x, y)).2) (4 - q.tmod 4) = rot ((4 - q.tmod 4) % 4).toNat (rot k (x, y)) from rfl, hb] at T3
    have hd0 : 0 ≤ sqd (x, y) (z, u) := by
      have p1 : ((x - z).natAbs * (x - z).natAbs : Nat) = (x - z) * (x - z) := Int.natAbs_mul_self
      have p2 : ((y - u).natAbs * (y - u).natAbs : Nat) = (y - u) * (y - u) := Int.natAbs_mul_self
      show 0 ≤ (x - z) * (x - z) + (y - u) * (y - u)
      omega
    have m1 := Int.tmod_lt_of_pos q (b := 4) (by decide)
    have m2 := Int.lt_tmod_of_pos q (b := 4) (by decide)
    clear hb hsq hk r1 r2 r3 r4 s1 s2 s3 s4 h1 h2 h3 h4 hdl
    dsimp only at T3 o1 o2
    generalize fw (rot k (x, y)).1 = p1 at *
    generalize fw (rot k (x, y)).2 = p2 at *
    generalize fw (rot k (z, u)).1 = p3 at *
    generalize fw (rot k (z, u)).2 = p4 at *
    generalize sqd (x, y) (z, u) = d at *
    generalize fw x = fx at *
    generalize fw y = fy at *
    go_wp2_with (first
      | (go_at_call 11; with_reducible refine Calls.mono (D1 _).out ?_; rintro e w' ⟨rfl, rfl⟩)
      | (go_at_call 11; with_reducible refine Calls.mono (D2 _).out ?_; rintro e w' ⟨rfl, rfl⟩)
      | (go_at_call 11; with_reducible refine Calls.mono (D3 _).out ?_; rintro e w' ⟨rfl, rfl⟩)
      | (go_at_call 15; with_reducible refine Calls.mono (T1 _).out ?_; rintro e w' ⟨rfl, rfl⟩)
      | (go_at_call 15; with_reducible refine Calls.mono (T2 _).out ?_; rintro e w' ⟨rfl, rfl⟩)
      | (go_at_call 15; with_reducible refine Calls.mono (T3 _).out ?_; rintro e w' ⟨rfl, rfl⟩))
    go_ret
    exact ⟨rfl, HB2.out⟩
  · rw [h] at D1 D2
    clear hdl h
    go_wp2_with (first
      | (go_at_call 11; with_reducible refine Calls.mono (D1 _).out ?_; rintro e w' ⟨rfl, rfl⟩)
      | (go_at_call 11; with_reducible refine Calls.mono (D2 _).out ?_; rintro e w' ⟨rfl, rfl⟩))
    go_ret
    exact ⟨rfl, HB2.out⟩
end Go.Proofs.Ytgblbhbmeflckaa
