/- Turn, the reference's Turn, and whether bits are whole. -/
import Derived.Test.YtgblbhbmeflckaaWhere2
namespace Go.Proofs.Ytgblbhbmeflckaa
open Go.RowKit Fl
set_option linter.unusedVariables false
set_option linter.unusedSimpArgs false
def rot : Nat → Int × Int → Int × Int
  | 0, p => p
  | n + 1, p => (-(rot n p).2, (rot n p).1)
theorem and3 (q : Int) : bits .and .i64 q 3 = q % 4 := by
  show IntKind.i64.wrap ((BitVec.ofInt 64 q &&& BitVec.ofInt 64 3).toNat : Int) = _
  rw [BitVec.toNat_and, show (BitVec.ofInt 64 3).toNat = 2 ^ 2 - 1 by rfl, Nat.and_two_pow_sub_one_eq_mod, BitVec.toNat_ofInt, IntKind.wrap_i64]
  omega
theorem mul_i {x y : Nat} {s t : Bool} {N M : Nat} (hx : Is x s N) (hy : Is y t M) (hN : N ≤ 1000) (hM : M ≤ 1000) :
    ∃ re im s' t', (∀ w, (binOp .mul 26 (.complex .f64 x y) (.complex .f64 0 4607182418800017408)).run Try.prog w = .ok (.complex .f64 re im) w) ∧ Is re s' M ∧ Is im t' N ∧ val s' M = - val t M ∧ val t' N = val s N := by
  have h53 : (2 : Nat) ^ 53 = 9007199254740992 := rfl
  have z := is_zero
  have m1 := mul_is hx z (by omega)
  have m2 := mul_is hy i1 (by omega)
  have m3 := mul_is hx i1 (by omega)
  have m4 := mul_is hy z (by omega)
  simp only [Nat.mul_zero, Nat.mul_one, Bool.xor_false] at m1 m2 m3 m4
  have j1 := is_F s 0 (by omega)
  have j2 := is_F t M (by omega)
  have j3 := is_F s N (by omega)
  have j4 := is_F t 0 (by omega)
  have v0 : ∀ s, val s 0 = 0 := fun s => by cases s <;> rfl
  have s1 := sub_is j1 j2 (by omega)
  have s2 := add_is j3 j4 (by omega)
  rw [v0, Int.zero_sub] at s1
  rw [v0, Int.add_zero] at s2
  have a1 : (-val t M).natAbs = M := by rw [Int.natAbs_neg, val_natAbs]
  have a2 : (val s N).natAbs = N := val_natAbs s N
  rw [a1] at s1
  rw [a2] at s2
  refine ⟨_, _, _, _, fun w => mul_run m1 m2 s1 m3 m4 s2 w, is_F _ _ (by omega), is_F _ _ (by omega), ?_, ?_⟩
  · have := val_sgn s (!t) (-val t M)
    rw [a1] at this; exact this
  · have := val_sgn s t (val s N)
    rw [a2] at this; exact this
theorem add_0 {x : Nat} {s : Bool} {N : Nat} (hx : Is x s N) (hN : N ≤ 1000) (w : World) : (binOp .add 46 (.float .f64 x) (.float .f64 0)).run Try.prog w = .ok (.float .f64 (fw (val s N))) w := by
  have h53 : (2 : Nat) ^ 53 = 9007199254740992 := rfl
  have z := is_zero
  have m := add_is hx z (by omega)
  rw [show val false 0 = 0 from rfl, Int.add_zero] at m
  refine run_float_arith w .add 46 .f64 x 0 _ ?_
  show D.add x 0 = _
  rw [m]
  unfold fw sgn
  congr 2
  by_cases h : val s N = 0 <;> simp [h]
def turnV (a b : Option Int) (q : Int) : Int × Int := match a, b with | some x, some y => rot (q % 4).toNat (x, y) | _, _ => (0, 0)
theorem fw0 : fw 0 = 0 := by
  unfold fw F Ieee.Format.nearest
  rfl
theorem lwhole_eq (x y : Int) (w : World) : Calls Try.prog 14 #[.complex .f64 (fw x) (fw y), .int .i64 x, .int .i64 y] w fun e w' => e = .returned (.bool true) ∧ w = w' := by
  have hbt := bits_run
  have hf := fi_eq
  generalize h1 : fw x = u at *
  generalize h2 : fw y = v at *
  have hx : floatOfInt .f64 x = u := (hf x).trans h1
  have hy : floatOfInt .f64 y = v := (hf y).trans h2
  clear hf h1 h2
  go_enter Try.func14, Try.ntmps14
  go_wp2
  go_ret
  exact ⟨rfl, rfl⟩
/-- A place, as two words. -/
structure At (x y : Nat) (p : Int × Int) : Prop where
  l1 : -1000 ≤ p.1
  l2 : p.1 ≤ 1000
  l3 : -1000 ≤ p.2
  l4 : p.2 ≤ 1000
  e1 : ∃ s N, N ≤ 1000 ∧ Is x s N ∧ val s N = p.1
  e2 : ∃ s N, N ≤ 1000 ∧ Is y s N ∧ val s N = p.2
theorem At.of {a b : Nat} {x y : Int} (ha : pl a = some x) (hb : pl b = some y) : At a b (x, y) := by
  obtain ⟨a1, a2, a3⟩ := pl_is ha
  obtain ⟨b1, b2, b3⟩ := pl_is hb
  exact ⟨a1, a2, b1, b2, a3, b3⟩
theorem At.step {x y : Nat} {p : Int × Int} (h : At x y p) : ∃ re im, (∀ w, (binOp .mul 26 (.complex .f64 x y) (.complex .f64 0 4607182418800017408)).run Try.prog w = .ok (.complex .f64 re im) w) ∧ At re im (-p.2, p.1) := by
  obtain ⟨l1, l2, l3, l4, ⟨s, N, hN, hI, v1⟩, ⟨t, M, hM, hJ, v2⟩⟩ := h
  obtain ⟨re, im, s', t', hr, k1, k2, k3, k4⟩ := mul_i hI hJ hN hM
  exact ⟨re, im, hr, by show -1000 ≤ -p.2; omega, by show -p.2 ≤ 1000; omega, l1, l2, ⟨s', M, hM, k1, by show _ = -p.2; omega⟩, ⟨t', N, hN, k2, by show _ = p.1; omega⟩⟩
set_option maxHeartbeats 1000000 in
theorem turn_any (a b : Nat) (q : Int) (w : World) : Calls Try.prog 15 #[.complex .f64 a b, .int .i64 q] w fun e w' => e = .returned (.complex .f64 (fw (turnV (pl a) (pl b) q).1) (fw (turnV (pl a) (pl b) q).2)) ∧ w = w' := by
  have HV := fun w => Lib.hid (valid_any a b w)
  rcases (show (∃ x y, pl a = some x ∧ pl b = some y) ∨ (((pl a).isSome && (pl b).isSome) = false ∧ turnV (pl a) (pl b) q = (0, 0)) by
    cases pl a <;> cases pl b <;> simp [turnV]) with ⟨x, y, ha, hb⟩ | ⟨h1, h2⟩
  · have h0 := At.of ha hb
    have hq := and3 q
    have hq0 := Int.emod_nonneg q (b := 4) (by decide)
    have hq1 := Int.emod_lt_of_pos q (b := 4) (by decide)
    rw [ha, hb] at HV
    rw [ha, hb, show turnV (some x) (some y) q = rot (q % 4).toNat (x, y) from rfl]
    obtain ⟨k, hk⟩ : ∃ k : Nat, q % 4 = k := ⟨(q % 4).toNat, by omega⟩
    have hk4 : k < 4 := by omega
    rw [hk] at hq
    rw [hk, Int.toNat_natCast]
    have H0 := Lib.hid h0
    clear ha hb h0 hk hq0 hq1
    go_enter Try.func15, Try.ntmps15
    go_wp2_with (go_at_call 25; with_reducible refine Calls.mono (HV _).out ?_; rintro e w' ⟨rfl, rfl⟩)
    go_loopg [0, 10] k (fun m av iv wr => w = wr ∧ ∃ (i : Nat) (u v : Nat), av = .complex .f64 u v ∧ iv = .int .i64 i ∧ i ≤ k ∧ m = k - i ∧ Hid (At u v (rot i (x, y))))
    case atStart => exact ⟨rfl, 0, a, b, rfl, rfl, Nat.zero_le _, rfl, H0⟩
    case round =>
      obtain ⟨rfl, i, u, v, rfl, rfl, hi, hm, HA⟩ := hrel
      subst hm
      by_cases hlt : i < k
      · obtain ⟨re, im, hr, hs⟩ := HA.out.step
        have HS := Lib.hid hs
        clear hs
        go_wp2
        go_roundg (k - (i + 1))
        case measure => omega
        case rel => exact ⟨rfl, i + 1, re, im, rfl, val_int (by omega), by omega, rfl, HS⟩
      · obtain rfl : i = k := by omega
        obtain ⟨_, _, _, _, ⟨s, N, hN, hI, v1⟩, ⟨t, M, hM, hJ, v2⟩⟩ := HA.out
        have r1 := add_0 hI hN
        have r2 := add_0 hJ hM
        rw [v1] at r1
        rw [v2] at r2
        have R := Lib.hid (ret_cplx (a := fw (rot i (x, y)).1) (b := fw (rot i (x, y)).2) rfl rfl)
        clear hI hJ v1 v2
        go_wp2
        go_ret
        exact ⟨ret_cplx rfl rfl, rfl⟩
  · rw [h1] at HV
    rw [h2]
    have hz : fw 0 = 0 := fw0
    have HZ := Lib.hid hz
    clear hz
    go_enter Try.func15, Try.ntmps15
    go_wp2_with (go_at_call 25; with_reducible refine Calls.mono (HV _).out ?_; rintro e w' ⟨rfl, rfl⟩)
    go_ret
    exact ⟨ret_cplx HZ.out.symm HZ.out.symm, rfl⟩
theorem rot_bd (i : Nat) (p : Int × Int) (h1 : -1000 ≤ p.1) (h2 : p.1 ≤ 1000) (h3 : -1000 ≤ p.2) (h4 : p.2 ≤ 1000) : -1000 ≤ (rot i p).1 ∧ (rot i p).1 ≤ 1000 ∧ -1000 ≤ (rot i p).2 ∧ (rot i p).2 ≤ 1000 := by
  induction i with
  | zero => exact ⟨h1, h2, h3, h4⟩
  | succ i ih => obtain ⟨a, b, c, d⟩ := ih; exact ⟨by show -1000 ≤ -(rot i p).2; omega, by show -(rot i p).2 ≤ 1000; omega, a, b⟩
theorem ret_two {a b c d : Int} (h : a = c) (k : b = d) : Ending.returned (.tuple #[.int .i64 a, .int .i64 b]) = .returned (.tuple #[.int .i64 c, .int .i64 d]) := by rw [h, k]
set_option maxHeartbeats 1000000 in
theorem rturn_any (a b : Nat) (q : Int) (w : World) : Calls Try.prog 16 #[.complex .f64 a b, .int .i64 q] w fun e w' => e = .returned (.tuple #[.int .i64 (turnV (pl a) (pl b) q).1, .int .i64 (turnV (pl a) (pl b) q).2]) ∧ w = w' := by
  have HP := fun w => Lib.hid (place_any a b w)
  rcases (show (∃ x y, pl a = some x ∧ pl b = some y) ∨ (placeV (pl a) (pl b) = .tuple #[.int .i64 0, .int .i64 0, .bool false] ∧ turnV (pl a) (pl b) q = (0, 0)) by
    cases pl a <;> cases pl b <;> simp [turnV, placeV]) with ⟨x, y, ha, hb⟩ | ⟨h1, h2⟩
  · obtain ⟨a1, a2, _⟩ := pl_is ha
    obtain ⟨b1, b2, _⟩ := pl_is hb
    rw [ha, hb, show placeV (some x) (some y) = .tuple #[.int .i64 x, .int .i64 y, .bool true] from rfl] at HP
    rw [ha, hb, show turnV (some x) (some y) q = rot (q % 4).toNat (x, y) from rfl]
    have hm1 := Int.tmod_lt_of_pos q (b := 4) (by decide)
    have hm2 := Int.lt_tmod_of_pos q (b := 4) (by decide)
    have hme : q.tmod 4 = q % 4 ∨ q.tmod 4 + 4 = q % 4 ∧ q.tmod 4 < 0 := by
      have := Int.emod_nonneg q (b := 4) (by decide)
      have := Int.emod_lt_of_pos q (b := 4) (by decide)
      have h1 := Int.tmod_add_mul_tdiv q 4
      omega
    obtain ⟨k, hk⟩ : ∃ k : Nat, q % 4 = k := ⟨(q % 4).toNat, by have := Int.emod_nonneg q (b := 4) (by decide); omega⟩
    have hk4 : k < 4 := by have := Int.emod_lt_of_pos q (b := 4) (by decide); omega
    rw [hk] at hme
    rw [hk, Int.toNat_natCast]
    have RB := fun i => Lib.hid (rot_bd i (x, y) a1 a2 b1 b2)
    clear ha hb hk hm1 hm2
    have key : (q.tmod 4 = k) ∨ (q.tmod 4 = (k : Int) - 4) := by omega
    clear hme
    rcases key with hq | hq
    all_goals
      go_enter Try.func16, Try.ntmps16
      go_wp2_with (go_at_call 28; with_reducible refine Calls.mono (HP _).out ?_; rintro e w' ⟨rfl, rfl⟩)
      go_loopg [6, 7, 10] k (fun m xv yv iv wr => w = wr ∧ ∃ (i : Nat), xv = .int .i64 (rot i (x, y)).1 ∧ yv = .int .i64 (rot i (x, y)).2 ∧ iv = .int .i64 i ∧ i ≤ k ∧ m = k - i)
      case atStart => exact ⟨rfl, 0, rfl, rfl, rfl, Nat.zero_le _, rfl⟩
      case round =>
        obtain ⟨rfl, i, rfl, rfl, rfl, hi, hm⟩ := hrel
        subst hm
        obtain ⟨r1, r2, r3, r4⟩ := (RB i).out
        have hs : rot (i + 1) (x, y) = (-(rot i (x, y)).2, (rot i (x, y)).1) := rfl
        have HS := Lib.hid hs
        clear hs
        by_cases hlt : i < k
        · generalize (rot i (x, y)).1 = u at *
          generalize (rot i (x, y)).2 = v at *
          go_wp2
          go_roundg (k - (i + 1))
          case measure => omega
          case rel => exact ⟨rfl, i + 1, val_int (by rw [HS.out]), val_int (by rw [HS.out]), val_int (by omega), by omega, rfl⟩
        · obtain rfl : i = k := by omega
          generalize hp : rot i (x, y) = p at *
          have HPP := Lib.hid hp
          clear hp
          go_wp2
          go_ret2
          exact ⟨ret_two (by rw [HPP.out]) (by rw [HPP.out]), rfl⟩
  · rw [h1] at HP
    rw [h2]
    go_enter Try.func16, Try.ntmps16
    go_wp2_with (go_at_call 28; with_reducible refine Calls.mono (HP _).out ?_; rintro e w' ⟨rfl, rfl⟩)
    go_ret2
    exact ⟨rfl, rfl⟩
end Go.Proofs.Ytgblbhbmeflckaa
