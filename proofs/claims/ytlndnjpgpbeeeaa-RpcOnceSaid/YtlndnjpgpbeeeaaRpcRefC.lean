/- The reference's caller. -/
import Derived.Test.YtlndnjpgpbeeeaaRpcCaller
namespace Go.Proofs.Ytlndnjpgpbeeeaa
open Go.RowKit Go.Maps
set_option linter.unusedVariables false
set_option linter.unusedSimpArgs false
theorem clamp_any (n least : Int) (hl : least ≤ 1099511627776) (w : World) : Calls Try.prog 20 #[.int .i64 n, .int .i64 least] w fun e w' => e = .returned (.int .i64 (clamp n least)) ∧ w = w' := by
  by_cases h : n < least
  · go_enter Try.func20, Try.ntmps20
    go_wp2_with fail
    go_ret
    exact ⟨ret_int (by unfold clamp; omega), rfl⟩
  · by_cases h2 : 1099511627776 < n
    · go_enter Try.func20, Try.ntmps20
      go_wp2_with fail
      go_ret
      exact ⟨ret_int (by unfold clamp; omega), rfl⟩
    · go_enter Try.func20, Try.ntmps20
      go_wp2_with fail
      go_ret
      exact ⟨ret_int (by unfold clamp; omega), rfl⟩
def Cl.refCells (c : Cl) : List Value := [.int .i64 c.wait, .int .i64 c.most, .int .i64 c.call, .int .i64 c.begun, .int .i64 c.sent, .bool c.under]
def RefAt (w : World) (b : Nat) (c : Cl) : Prop := Blk w b c.refCells 57
set_option maxHeartbeats 1000000 in
theorem refTick_any (b : Nat) (c : Cl) (hw : c.Wf) (now : Int) (w : World) (hC : RefAt w b c) :
    Calls Try.prog 21 #[.pointer (some ⟨b, 0, none⟩), .int .i64 now] w fun e w' => e = .returned (.int .i64 (c.tick now).1) ∧ RefAt w' b (c.tick now).2 ∧ Fr w w' (fun k => k = b) := by
  have HC := Lib.hid hC
  obtain ⟨w1, w2, m1, m2, b1, b2, s1, s2⟩ := hw
  obtain ⟨wait, most, call, under, begun, sent⟩ := c
  have c0 : w.cell? ⟨b, 0, none⟩ = some (.int .i64 wait) := hC.cell 0
  have c1 : w.cell? ⟨b, 1, none⟩ = some (.int .i64 most) := hC.cell 1
  have c2 : w.cell? ⟨b, 2, none⟩ = some (.int .i64 call) := hC.cell 2
  have c3 : w.cell? ⟨b, 3, none⟩ = some (.int .i64 begun) := hC.cell 3
  have c4 : w.cell? ⟨b, 4, none⟩ = some (.int .i64 sent) := hC.cell 4
  have c5 : w.cell? ⟨b, 5, none⟩ = some (.bool under) := hC.cell 5
  have f2 : ∀ j, w.frozen? ⟨b, j, none⟩ = false := fun j => hC.frozen j
  clear hC
  unfold Cl.tick
  have t1 := clamp_lo (n := now) (least := 0) (by decide)
  have t2 := clamp_hi now 0
  have HM := fun w => Lib.hid (clamp_any now 0 (by decide) w)
  generalize clamp now 0 = t at t1 t2 HM ⊢
  cases under
  · go_enter Try.func21, Try.ntmps21
    go_wp2_with fail
    refine (HM w).out.mono ?_
    rintro e w1 ⟨rfl, rfl⟩
    go_wp2
    go_ret
    exact ⟨rfl, HC.out, Fr.refl _ _⟩
  · simp only [if_true]
    dsimp only at *
    have e1 : wrap64 (t - most) = t - most := by unfold wrap64; omega
    have e2 : wrap64 (t - wait) = t - wait := by unfold wrap64; omega
    by_cases h : most ≤ t - begun
    · simp only [h, if_true]
      have d1 : decide (begun ≤ t - most) = true := by simp; omega
      go_enter Try.func21, Try.ntmps21
      go_wp2_with fail
      refine (HM w).out.mono ?_
      rintro e w1 ⟨rfl, rfl⟩
      go_wp2
      go_quiet (fail)
      go_wp2
      go_ret
      exact ⟨rfl, ((HC.out.drewN _).set 5 _), (((Fr.refl w (fun k => k = b)).drewN _).setCell _ _ fun _ => rfl)⟩
    · simp only [h, if_false]
      have d1 : decide (begun ≤ t - most) = false := by simp; omega
      by_cases h2 : wait ≤ t - sent
      · simp only [h2, if_true]
        have d2 : decide (sent ≤ t - wait) = true := by simp; omega
        go_enter Try.func21, Try.ntmps21
        go_wp2_with fail
        refine (HM w).out.mono ?_
        rintro e w1 ⟨rfl, rfl⟩
        go_wp2
        go_quiet (fail)
        go_wp2
        go_quiet (fail)
        go_wp2
        go_ret
        exact ⟨rfl, ((HC.out.drewN _).set 4 _), (((Fr.refl w (fun k => k = b)).drewN _).setCell _ _ fun _ => rfl)⟩
      · simp only [h2, if_false]
        have d2 : decide (sent ≤ t - wait) = false := by simp; omega
        go_enter Try.func21, Try.ntmps21
        go_wp2_with fail
        refine (HM w).out.mono ?_
        rintro e w1 ⟨rfl, rfl⟩
        go_wp2
        go_quiet (fail)
        go_wp2
        go_quiet (fail)
        go_wp2
        go_ret
        exact ⟨rfl, ((HC.out.drewN _).drewN _), ((Fr.refl w (fun k => k = b)).drewN _).drewN _⟩
/-! ### a script's steps -/
end Go.Proofs.Ytlndnjpgpbeeeaa
