/- Places: the reference's Place and Dist; numbers out of points; speaks. -/
import Derived.Test.YtgblbhbmeflckaaWhere
import Derived.Test.YtgblbhbmeflckaaRead
namespace Go.Proofs.Ytgblbhbmeflckaa
open Go.RowKit Fl
set_option linter.unusedVariables false
set_option linter.unusedSimpArgs false
def placeV : Option Int → Option Int → Value
  | some x, some y => .tuple #[.int .i64 x, .int .i64 y, .bool true]
  | _, _ => .tuple #[.int .i64 0, .int .i64 0, .bool false]
set_option maxHeartbeats 1000000 in
theorem place_any (a b : Nat) (w : World) : Calls Try.prog 28 #[.complex .f64 a b] w fun e w' => e = .returned (placeV (pl a) (pl b)) ∧ w = w' := by
  generalize hr : placeV (pl a) (pl b) = r
  have HR := Lib.hid hr
  clear hr
  go_enter Try.func28, Try.ntmps28
  go_wp2_with fail
  go_loopg [5] 2 (fun g kv wr => w = wr ∧ ∃ k : Nat, kv = .int .i64 k ∧ k ≤ 2 ∧ g = 2 - k ∧ Hid (1 ≤ k → ∃ n, pl a = some n) ∧ Hid (2 ≤ k → ∃ n, pl b = some n))
  case atStart => exact ⟨rfl, 0, rfl, by omega, rfl, Lib.hid fun h => by omega, Lib.hid fun h => by omega⟩
  case round =>
    obtain ⟨rfl, k, rfl, hk, hg, H1, H2⟩ := hrel
    subst hg
    rcases (show k = 0 ∨ k = 1 ∨ k = 2 by omega) with rfl | rfl | rfl
    · clear H1 H2
      rcases kin a with ⟨n, h1, h2, ht, hs, c1, c2, e⟩ | ⟨h1, h2, h3, h4⟩ | ⟨h1, h2, h3, h4⟩ | ⟨h1, h2, h3, h4⟩
      · have hcv := conv_fi ht (by omega) (by omega)
        have hfi := fi_eq n
        have hs : FloatKind.f64.format.order a a = some .eq := hs
        clear ht
        rcases e with ⟨e1, e2, e3⟩ | ⟨e1, e2, e3⟩
        · rcases c1 with c1 | c1 <;> rcases c2 with c2 | c2
          all_goals
            have c1 : FloatKind.f64.format.order a 4652007308841189376 = _ := c1
            have c2 : FloatKind.f64.format.order a 13875379345695965184 = _ := c2
            have e2 := (show FloatKind.f64.format.order (fw n) a = FloatKind.f64.format.order (fw n) a from rfl) ▸ e2
            have E3 := Lib.hid e3
            clear e1 e3
            go_wp2
            go_roundg (2 - 1)
            case measure => omega
            case rel => exact ⟨rfl, 1, rfl, by omega, rfl, Lib.hid fun _ => ⟨n, E3.out⟩, Lib.hid fun h => by omega⟩
        · rcases c1 with c1 | c1 <;> rcases c2 with c2 | c2
          all_goals
            have c1 : FloatKind.f64.format.order a 4652007308841189376 = _ := c1
            have c2 : FloatKind.f64.format.order a 13875379345695965184 = _ := c2
            have e2' : (FloatKind.f64.format.order (fw n) a != some .eq) = true := by
              have : (FloatKind.f64.format.order (fw n) a == some .eq) = false := e2
              simp [bne, this]
            have E3 := Lib.hid e3
            clear e1 e3
            go_wp2
            go_ret3
            rw [← HR.out, E3.out]
            exact ⟨rfl, rfl⟩
      all_goals
        have h1 : FloatKind.f64.format.order a a = _ := h1
        have h2 : FloatKind.f64.format.order a 4652007308841189376 = _ := h2
        have h3 : FloatKind.f64.format.order a 13875379345695965184 = _ := h3
        have E3 := Lib.hid h4
        clear h4
        go_wp2
        go_ret3
        rw [← HR.out, E3.out]
        exact ⟨rfl, rfl⟩
    · have H1X : Hid (1 ≤ 2 → ∃ n, pl a = some n) := Lib.hid fun _ => H1.out (by omega)
      clear H2
      rcases kin b with ⟨n, h1, h2, ht, hs, c1, c2, e⟩ | ⟨h1, h2, h3, h4⟩ | ⟨h1, h2, h3, h4⟩ | ⟨h1, h2, h3, h4⟩
      · have hcv := conv_fi ht (by omega) (by omega)
        have hfi := fi_eq n
        have hs : FloatKind.f64.format.order b b = some .eq := hs
        clear ht
        rcases e with ⟨e1, e2, e3⟩ | ⟨e1, e2, e3⟩
        · rcases c1 with c1 | c1 <;> rcases c2 with c2 | c2
          all_goals
            have c1 : FloatKind.f64.format.order b 4652007308841189376 = _ := c1
            have c2 : FloatKind.f64.format.order b 13875379345695965184 = _ := c2
            have e2 := (show FloatKind.f64.format.order (fw n) b = FloatKind.f64.format.order (fw n) b from rfl) ▸ e2
            have E3 := Lib.hid e3
            clear e1 e3
            go_wp2
            go_roundg (2 - 2)
            case measure => omega
            case rel => exact ⟨rfl, 2, rfl, by omega, rfl, H1X, Lib.hid fun _ => ⟨n, E3.out⟩⟩
        · rcases c1 with c1 | c1 <;> rcases c2 with c2 | c2
          all_goals
            have c1 : FloatKind.f64.format.order b 4652007308841189376 = _ := c1
            have c2 : FloatKind.f64.format.order b 13875379345695965184 = _ := c2
            have e2' : (FloatKind.f64.format.order (fw n) b != some .eq) = true := by
              have : (FloatKind.f64.format.order (fw n) b == some .eq) = false := e2
              simp [bne, this]
            have E3 := Lib.hid e3
            clear e1 e3
            go_wp2
            go_ret3
            rw [← HR.out, E3.out]
            exact ⟨by cases pl a <;> rfl, rfl⟩
      all_goals
        have h1 : FloatKind.f64.format.order b b = _ := h1
        have h2 : FloatKind.f64.format.order b 4652007308841189376 = _ := h2
        have h3 : FloatKind.f64.format.order b 13875379345695965184 = _ := h3
        have E3 := Lib.hid h4
        clear h4
        go_wp2
        go_ret3
        rw [← HR.out, E3.out]
        exact ⟨by cases pl a <;> rfl, rfl⟩
    · obtain ⟨n, ha⟩ := H1.out (by omega)
      obtain ⟨m, hb⟩ := H2.out (by omega)
      obtain ⟨n1, n2, s1, N, hN, hI, rfl⟩ := pl_is ha
      obtain ⟨m1, m2, s2, M, hM, hJ, rfl⟩ := pl_is hb
      have hcv := conv_fi (toInt_is hI) (by omega) (by omega)
      have hcw := conv_fi (toInt_is hJ) (by omega) (by omega)
      have HA := Lib.hid ha
      have HB := Lib.hid hb
      clear ha hb H1 H2 hI hJ
      go_wp2
      go_ret3
      rw [← HR.out, HA.out, HB.out]
      exact ⟨rfl, rfl⟩
theorem sq_bd {x : Int} (h1 : -2000 ≤ x) (h2 : x ≤ 2000) : 0 ≤ x * x ∧ x * x ≤ 4000000 := by
  have : x.natAbs ≤ 2000 := by omega
  have h3 := Nat.mul_le_mul this this
  have h4 : ((x.natAbs * x.natAbs : Nat) : Int) = x * x := Int.natAbs_mul_self
  omega
set_option maxHeartbeats 1000000 in
theorem rdist_any (a b c d : Nat) (w : World) : Calls Try.prog 17 #[.complex .f64 a b, .complex .f64 c d] w fun e w' => e = .returned (.int .i64 (distI (pl a) (pl b) (pl c) (pl d))) ∧ w = w' := by
  have H1 := fun w => Lib.hid (place_any a b w)
  have H2 := fun w => Lib.hid (place_any c d w)
  have HB : Hid (∀ (x : Nat) (n : Int), pl x = some n → -1000 ≤ n ∧ n ≤ 1000) := Lib.hid fun x n h => ⟨(pl_is h).1, (pl_is h).2.1⟩
  rcases (show (∃ x y z u, pl a = some x ∧ pl b = some y ∧ pl c = some z ∧ pl d = some u) ∨ (placeV (pl a) (pl b) = .tuple #[.int .i64 0, .int .i64 0, .bool false] ∧ distI (pl a) (pl b) (pl c) (pl d) = -1) ∨
      ((∃ x y, placeV (pl a) (pl b) = .tuple #[.int .i64 x, .int .i64 y, .bool true]) ∧ placeV (pl c) (pl d) = .tuple #[.int .i64 0, .int .i64 0, .bool false] ∧ distI (pl a) (pl b) (pl c) (pl d) = -1) by
    cases pl a <;> cases pl b <;> cases pl c <;> cases pl d <;> simp [placeV, distI]) with ⟨x, y, z, u, h1, h2, h3, h4⟩ | ⟨h1, h2⟩ | ⟨⟨x, y, h1⟩, h2, h3⟩
  · obtain ⟨a1, a2⟩ := HB.out _ _ h1
    obtain ⟨b1, b2⟩ := HB.out _ _ h2
    obtain ⟨c1, c2⟩ := HB.out _ _ h3
    obtain ⟨d1, d2⟩ := HB.out _ _ h4
    rw [h1, h2, show placeV (some x) (some y) = .tuple #[.int .i64 x, .int .i64 y, .bool true] from rfl] at H1
    rw [h3, h4, show placeV (some z) (some u) = .tuple #[.int .i64 z, .int .i64 u, .bool true] from rfl] at H2
    rw [h1, h2, h3, h4, show distI (some x) (some y) (some z) (some u) = (x - z) * (x - z) + (y - u) * (y - u) from rfl]
    obtain ⟨p1, p2⟩ := sq_bd (x := x - z) (by omega) (by omega)
    obtain ⟨q1, q2⟩ := sq_bd (x := y - u) (by omega) (by omega)
    clear h1 h2 h3 h4 HB
    go_enter Try.func17, Try.ntmps17
    go_wp2_with (first | (go_at_call 28; with_reducible refine Calls.mono (H1 _).out ?_; rintro e w' ⟨rfl, rfl⟩) | (go_at_call 28; with_reducible refine Calls.mono (H2 _).out ?_; rintro e w' ⟨rfl, rfl⟩))
    go_ret
    exact ⟨rfl, rfl⟩
  · rw [h1] at H1
    rw [h2]
    clear h1 h2
    obtain ⟨x, y, z, hv⟩ : ∃ x y z, placeV (pl c) (pl d) = .tuple #[.int .i64 x, .int .i64 y, .bool z] := by cases pl c <;> cases pl d <;> exact ⟨_, _, _, rfl⟩
    rw [hv] at H2
    clear hv
    go_enter Try.func17, Try.ntmps17
    go_wp2_with (first | (go_at_call 28; with_reducible refine Calls.mono (H1 _).out ?_; rintro e w' ⟨rfl, rfl⟩) | (go_at_call 28; with_reducible refine Calls.mono (H2 _).out ?_; rintro e w' ⟨rfl, rfl⟩))
    go_ret
    exact ⟨rfl, rfl⟩
  · rw [h1] at H1
    rw [h2] at H2
    rw [h3]
    clear h1 h2 h3
    go_enter Try.func17, Try.ntmps17
    go_wp2_with (first | (go_at_call 28; with_reducible refine Calls.mono (H1 _).out ?_; rintro e w' ⟨rfl, rfl⟩) | (go_at_call 28; with_reducible refine Calls.mono (H2 _).out ?_; rintro e w' ⟨rfl, rfl⟩))
    go_ret
    exact ⟨rfl, rfl⟩
/-! ### numbers out of points -/
structure Pt where
  x : Int
  y : Int
  raw : Bool
def Pt.cells (p : Pt) : List Value := [.int .i64 p.x, .int .i64 p.y, .bool p.raw]
structure Pt.Wf (p : Pt) : Prop where
  x1 : -9223372036854775808 ≤ p.x
  x2 : p.x ≤ 9223372036854775807
  y1 : -9223372036854775808 ≤ p.y
  y2 : p.y ≤ 9223372036854775807
theorem pt_flat : flat Try.prog 8 23 = some [.int .i64, .int .i64, .bool] := by kernel_rfl
def RPt : World → List Value → Pt → Prop := fun _ cs p => cs = p.cells ∧ p.Wf
theorem opens_pt (w : World) : Opens Try.prog w 23 RPt (fun p => vbulk p.cells) :=
  opens_flat pt_flat Pt.cells Pt.Wf fun cs h => by
    obtain ⟨k, d1, rfl, k1, k2, ha⟩ := h.i64_inv
    obtain ⟨n, d2, rfl, n1, n2, hb⟩ := ha.i64_inv
    obtain ⟨c, d3, rfl, hc⟩ := hb.bool_inv
    obtain rfl := hc.nil_inv
    exact ⟨⟨k, n, c⟩, rfl, k1, k2, n1, n2⟩
def word (raw : Bool) (x : Int) : Nat := if raw then (IntKind.u64.wrap x).toNat else fw x
def Pt.re (p : Pt) : Nat := word p.raw p.x
def Pt.im (p : Pt) : Nat := word p.raw p.y
theorem from_run (n : Int) (w : World) : (callFunc 27 #[.int .u64 n]).run Try.prog w = .ok (.value (.float .f64 n.toNat)) w := by
  rw [run_callFunc_extern (e := Extern.MathFloatBits.float64frombits) Try.func27 (by kernel_rfl) (by kernel_rfl) (by kernel_rfl) (by kernel_rfl)]
  rfl
theorem bits_run (b : Nat) (w : World) : (callFunc 22 #[.float .f64 b]).run Try.prog w = .ok (.value (.int .u64 b)) w := by
  rw [run_callFunc_extern (e := Extern.MathFloatBits.float64bits) Try.func22 (by kernel_rfl) (by kernel_rfl) (by kernel_rfl) (by kernel_rfl)]
  rfl
theorem word_f (x : Int) : fw x = word false x := by unfold word; rw [if_neg (by decide)]
theorem word_t (x : Int) : (IntKind.u64.wrap x).toNat = word true x := by unfold word; rw [if_pos rfl]
theorem ret_cplx {a b c d : Nat} (h : a = c) (k : b = d) : Ending.returned (.complex .f64 a b) = .returned (.complex .f64 c d) := by rw [h, k]
theorem number_any (x y : Int) (raw : Bool) (w : World) : Calls Try.prog 12 #[.agg #[.int .i64 x, .int .i64 y, .bool raw]] w fun e w' => e = .returned (.complex .f64 (word raw x) (word raw y)) ∧ Below w.heap.size w w' := by
  have hfr := from_run
  have hf1 := fi_eq
  have HW1 : Hid (∀ x, fw x = word false x) := Lib.hid word_f
  have HW2 : Hid (∀ x, (IntKind.u64.wrap x).toNat = word true x) := Lib.hid word_t
  have HB := Lib.hid ((Below.refl w.heap.size w).alloc (Nat.le_refl _) (.cells #[.int .i64 x, .int .i64 y, .bool raw] 23))
  cases raw
  · go_enter Try.func12, Try.ntmps12
    go_wp2
    go_ret
    exact ⟨ret_cplx (HW1.out x) (HW1.out y), HB.out⟩
  · go_enter Try.func12, Try.ntmps12
    go_wp2
    go_quiet (fail)
    go_wp2
    go_ret
    exact ⟨ret_cplx (HW2.out x) (HW2.out y), below_drewN HB.out _⟩
theorem i1 : Is 4607182418800017408 false 1 := ⟨52, by rfl⟩
theorem i2 : Is 4611686018427387904 false 2 := ⟨51, by rfl⟩
theorem i3 : Is 4616189618054758400 false 4 := ⟨50, by rfl⟩
theorem i4 : Is 13835058055282163712 true 2 := ⟨51, by rfl⟩
theorem speaks_d : distI (pl 4607182418800017408) (pl 4611686018427387904) (pl 4616189618054758400) (pl 13835058055282163712) = 25 := by
  rw [pl_yes i1 (by omega), pl_yes i2 (by omega), pl_yes i3 (by omega), pl_yes i4 (by omega)]
  rfl
theorem speaks_any (w : World) : Calls Try.prog 10 #[] w fun e w' => e = .returned (.bool true) ∧ w = w' := by
  go_enter Try.func10, Try.ntmps10
  go_wp2_with (go_at_call 11; refine (dist_any _ _ _ _ _).mono ?_; rw [speaks_d]; rintro e w' ⟨rfl, rfl⟩)
  go_ret
  exact ⟨rfl, rfl⟩
end Go.Proofs.Ytgblbhbmeflckaa
