/- The contracts of Caller. -/
import Derived.Test.YtiaknanflgdmoaaRpc
namespace Go.Proofs.Ytiaknanflgdmoaa
open Go.RowKit Go.Maps
set_option linter.unusedVariables false
set_option linter.unusedSimpArgs false
structure Cl where
  wait : Int
  most : Int
  call : Int
  under : Bool
  begun : Int
  sent : Int
def Cl.cells (c : Cl) : List Value := [.int .i64 c.wait, .int .i64 c.most, .int .i64 c.call, .bool c.under, .int .i64 c.begun, .int .i64 c.sent]
structure Cl.Wf (c : Cl) : Prop where
  w1 : 1 ≤ c.wait
  w2 : c.wait ≤ 1099511627776
  m1 : 1 ≤ c.most
  m2 : c.most ≤ 1099511627776
  b1 : 0 ≤ c.begun
  b2 : c.begun ≤ 1099511627776
  s1 : 0 ≤ c.sent
  s2 : c.sent ≤ 1099511627776
def clamp (n least : Int) : Int := min (max n least) 1099511627776
theorem clamp_lo {n least : Int} (h : least ≤ 1099511627776) : least ≤ clamp n least := by unfold clamp; omega
theorem clamp_hi (n least : Int) : clamp n least ≤ 1099511627776 := by unfold clamp; omega
theorem moment_any (n least : Int) (hl : least ≤ 1099511627776) (w : World) : Calls Try.prog 19 #[.int .i64 n, .int .i64 least] w fun e w' => e = .returned (.int .i64 (clamp n least)) ∧ w = w' := by
  rcases Int.lt_trichotomy n least with h | h | h
  · have h2 : ¬ n > least := by omega
    go_enter Try.func19, Try.ntmps19
    go_wp2_with fail
    all_goals (go_ret; exact ⟨ret_int (by unfold clamp; omega), rfl⟩)
  · subst h
    go_enter Try.func19, Try.ntmps19
    go_wp2_with fail
    all_goals (go_ret; exact ⟨ret_int (by unfold clamp; omega), rfl⟩)
  · by_cases h2 : 1099511627776 < n
    · go_enter Try.func19, Try.ntmps19
      go_wp2_with fail
      all_goals (go_ret; exact ⟨ret_int (by unfold clamp; omega), rfl⟩)
    · go_enter Try.func19, Try.ntmps19
      go_wp2_with fail
      all_goals (go_ret; exact ⟨ret_int (by unfold clamp; omega), rfl⟩)
def CallerAt (w : World) (b : Nat) (c : Cl) : Prop := Blk w b c.cells 58
def CallerTo (w : World) (b : Nat) (c : Cl) (w' : World) : Prop := CallerAt w' b c ∧ Fr w w' (fun k => k = b)
theorem newCaller_any (wait most : Int) (w : World) :
    Calls Try.prog 5 #[.int .i64 wait, .int .i64 most] w fun e w' => e = .returned (.pointer (some ⟨w.heap.size, 0, none⟩)) ∧ w' = w.alloc (.cells #[.int .i64 (clamp wait 1), .int .i64 (clamp most 1), .int .i64 0, .bool false, .int .i64 0, .int .i64 0] 58) := by
  go_enter Try.func5, Try.ntmps5
  go_wp2_with fail
  refine (moment_any wait 1 (by decide) w).mono ?_
  rintro e w1 ⟨rfl, rfl⟩
  go_wp2_with fail
  refine (moment_any most 1 (by decide) w).mono ?_
  rintro e w1 ⟨rfl, rfl⟩
  go_wp2_with fail
  go_ret
  exact ⟨rfl, rfl⟩
def Cl.start (c : Cl) (now : Int) : Cl := { c with call := wrap64 (c.call + 1), under := true, begun := clamp now 0, sent := clamp now 0 }
def Cl.tick (c : Cl) (now : Int) : Int × Cl :=
  if c.under = true then if c.most ≤ clamp now 0 - c.begun then (2, { c with under := false }) else if c.wait ≤ clamp now 0 - c.sent then (1, { c with sent := clamp now 0 }) else (0, c) else (0, c)
def Cl.got (c : Cl) (call : Int) : Bool × Cl := if c.under = true ∧ c.call = call then (true, { c with under := false }) else (false, c)
theorem Cl.start_wf {c : Cl} (h : c.Wf) (now : Int) : (c.start now).Wf := ⟨h.w1, h.w2, h.m1, h.m2, clamp_lo (by decide), clamp_hi _ _, clamp_lo (by decide), clamp_hi _ _⟩
theorem Cl.tick_wf {c : Cl} (h : c.Wf) (now : Int) : (c.tick now).2.Wf := by
  unfold Cl.tick
  split
  · split
    · exact ⟨h.w1, h.w2, h.m1, h.m2, h.b1, h.b2, h.s1, h.s2⟩
    · split
      · exact ⟨h.w1, h.w2, h.m1, h.m2, h.b1, h.b2, clamp_lo (by decide), clamp_hi _ _⟩
      · exact h
  · exact h
theorem Cl.got_wf {c : Cl} (h : c.Wf) (call : Int) : (c.got call).2.Wf := by
  unfold Cl.got
  split
  · exact ⟨h.w1, h.w2, h.m1, h.m2, h.b1, h.b2, h.s1, h.s2⟩
  · exact h
set_option maxHeartbeats 1000000 in
theorem start_any (b : Nat) (c : Cl) (now : Int) (w : World) (hC : CallerAt w b c) :
    Calls Try.prog 6 #[.pointer (some ⟨b, 0, none⟩), .int .i64 now] w fun e w' => e = .returned (.int .i64 (c.start now).call) ∧ CallerTo w b (c.start now) w' := by
  have HC := Lib.hid hC
  have c2 : w.cell? ⟨b, 2, none⟩ = some (.int .i64 c.call) := hC.cell 2
  have c3 : w.cell? ⟨b, 3, none⟩ = some (.bool c.under) := hC.cell 3
  have c4 : w.cell? ⟨b, 4, none⟩ = some (.int .i64 c.begun) := hC.cell 4
  have c5 : w.cell? ⟨b, 5, none⟩ = some (.int .i64 c.sent) := hC.cell 5
  have f2 : ∀ j, w.frozen? ⟨b, j, none⟩ = false := fun j => hC.frozen j
  clear hC
  go_enter Try.func6, Try.ntmps6
  go_wp2_with fail
  refine (moment_any now 0 (by decide) w).mono ?_
  rintro e w1 ⟨rfl, rfl⟩
  go_wp2_with fail
  go_ret
  exact ⟨rfl, ((((HC.out.set 2 _).set 3 _).set 4 _).set 5 _), (((((Fr.refl w (fun k => k = b)).setCell _ _ fun _ => rfl).setCell _ _ fun _ => rfl).setCell _ _ fun _ => rfl).setCell _ _ fun _ => rfl)⟩
set_option maxHeartbeats 1000000 in
theorem tick_any (b : Nat) (c : Cl) (hw : c.Wf) (now : Int) (w : World) (hC : CallerAt w b c) :
    Calls Try.prog 17 #[.pointer (some ⟨b, 0, none⟩), .int .i64 now] w fun e w' => e = .returned (.int .i64 (c.tick now).1) ∧ CallerTo w b (c.tick now).2 w' := by
  have HC := Lib.hid hC
  obtain ⟨w1, w2, m1, m2, b1, b2, s1, s2⟩ := hw
  obtain ⟨wait, most, call, under, begun, sent⟩ := c
  have c0 : w.cell? ⟨b, 0, none⟩ = some (.int .i64 wait) := hC.cell 0
  have c1 : w.cell? ⟨b, 1, none⟩ = some (.int .i64 most) := hC.cell 1
  have c2 : w.cell? ⟨b, 2, none⟩ = some (.int .i64 call) := hC.cell 2
  have c3 : w.cell? ⟨b, 3, none⟩ = some (.bool under) := hC.cell 3
  have c4 : w.cell? ⟨b, 4, none⟩ = some (.int .i64 begun) := hC.cell 4
  have c5 : w.cell? ⟨b, 5, none⟩ = some (.int .i64 sent) := hC.cell 5
  have f2 : ∀ j, w.frozen? ⟨b, j, none⟩ = false := fun j => hC.frozen j
  clear hC
  unfold Cl.tick
  have t1 := clamp_lo (n := now) (least := 0) (by decide)
  have t2 := clamp_hi now 0
  have HM := fun w => Lib.hid (moment_any now 0 (by decide) w)
  generalize clamp now 0 = t at t1 t2 HM ⊢
  cases under
  · go_enter Try.func17, Try.ntmps17
    go_wp2
    go_ret
    exact ⟨rfl, HC.out, Fr.refl _ _⟩
  · simp only [if_true]
    dsimp only at *
    have e1 : wrap64 (t - begun) = t - begun := by unfold wrap64; omega
    have e2 : wrap64 (t - sent) = t - sent := by unfold wrap64; omega
    by_cases h : most ≤ t - begun
    · simp only [h, if_true]
      have d1 : decide (most ≤ t - begun) = true := by simp [h]
      go_enter Try.func17, Try.ntmps17
      go_wp2_with fail
      refine (HM w).out.mono ?_
      rintro e w1 ⟨rfl, rfl⟩
      go_wp2
      go_quiet (fail)
      go_wp2
      go_ret
      exact ⟨rfl, ((HC.out.drewN _).set 3 _), (((Fr.refl w (fun k => k = b)).drewN _).setCell _ _ fun _ => rfl)⟩
    · simp only [h, if_false]
      have d1 : decide (most ≤ t - begun) = false := by simp [h]
      by_cases h2 : wait ≤ t - sent
      · simp only [h2, if_true]
        have d2 : decide (wait ≤ t - sent) = true := by simp [h2]
        go_enter Try.func17, Try.ntmps17
        go_wp2_with fail
        refine (HM w).out.mono ?_
        rintro e w1 ⟨rfl, rfl⟩
        go_wp2
        go_quiet (fail)
        go_wp2
        go_quiet (fail)
        go_wp2
        go_ret
        exact ⟨rfl, ((HC.out.drewN _).set 5 _), (((Fr.refl w (fun k => k = b)).drewN _).setCell _ _ fun _ => rfl)⟩
      · simp only [h2, if_false]
        have d2 : decide (wait ≤ t - sent) = false := by simp [h2]
        go_enter Try.func17, Try.ntmps17
        go_wp2_with fail
        refine (HM w).out.mono ?_
        rintro e w1 ⟨rfl, rfl⟩
        go_wp2
        go_quiet (fail)
        go_wp2
        go_quiet (fail)
        go_wp2
        go_ret
        exact ⟨rfl, ((HC.out.drewN _).drewN _), ((Fr.refl w (fun k => k = b)).drewN _).drewN _⟩
set_option maxHeartbeats 1000000 in
theorem got_any (b : Nat) (c : Cl) (call : Int) (w : World) (hC : CallerAt w b c) :
    Calls Try.prog 14 #[.pointer (some ⟨b, 0, none⟩), .int .i64 call] w fun e w' => e = .returned (.bool (c.got call).1) ∧ CallerTo w b (c.got call).2 w' := by
  have HC := Lib.hid hC
  obtain ⟨wait, most, ccall, under, begun, sent⟩ := c
  have c2 : w.cell? ⟨b, 2, none⟩ = some (.int .i64 ccall) := hC.cell 2
  have c3 : w.cell? ⟨b, 3, none⟩ = some (.bool under) := hC.cell 3
  have f2 : ∀ j, w.frozen? ⟨b, j, none⟩ = false := fun j => hC.frozen j
  clear hC
  unfold Cl.got
  cases under
  · simp only [Bool.false_eq_true, false_and, if_false]
    go_enter Try.func14, Try.ntmps14
    go_wp2
    go_ret
    exact ⟨rfl, HC.out, Fr.refl _ _⟩
  · simp only [true_and]
    by_cases h : ccall = call
    · subst h
      simp only [if_true]
      have e : (ccall != ccall) = false := by simp
      go_enter Try.func14, Try.ntmps14
      go_wp2
      go_ret
      exact ⟨rfl, HC.out.set 3 _, (Fr.refl w (fun k => k = b)).setCell _ _ fun _ => rfl⟩
    · simp only [h, if_false]
      have e : (ccall != call) = true := by simp [h]
      go_enter Try.func14, Try.ntmps14
      go_wp2
      go_ret
      exact ⟨rfl, HC.out, Fr.refl _ _⟩
set_option maxHeartbeats 1000000 in
theorem call_any (b : Nat) (c : Cl) (w : World) (hC : CallerAt w b c) :
    Calls Try.prog 9 #[.pointer (some ⟨b, 0, none⟩)] w fun e w' => e = .returned (.tuple #[.int .i64 c.call, .bool c.under]) ∧ ∃ n, w' = w.drewN n := by
  have c2 : w.cell? ⟨b, 2, none⟩ = some (.int .i64 c.call) := hC.cell 2
  have c3 : w.cell? ⟨b, 3, none⟩ = some (.bool c.under) := hC.cell 3
  clear hC
  go_enter Try.func9, Try.ntmps9
  go_wp2
  go_quiet (fail)
  go_wp2
  go_ret2
  exact ⟨rfl, _, rfl⟩
/-! ### no caller -/
theorem start_nil (now : Int) (w : World) : Calls Try.prog 6 #[.pointer none, .int .i64 now] w fun e w' => e = .returned (.int .i64 0) ∧ w = w' := by
  go_enter Try.func6, Try.ntmps6
  go_wp2
  go_ret
  exact ⟨rfl, rfl⟩
theorem tick_nil (now : Int) (w : World) : Calls Try.prog 17 #[.pointer none, .int .i64 now] w fun e w' => e = .returned (.int .i64 0) ∧ w = w' := by
  go_enter Try.func17, Try.ntmps17
  go_wp2
  go_ret
  exact ⟨rfl, rfl⟩
theorem got_nil (call : Int) (w : World) : Calls Try.prog 14 #[.pointer none, .int .i64 call] w fun e w' => e = .returned (.bool false) ∧ w = w' := by
  go_enter Try.func14, Try.ntmps14
  go_wp2
  go_ret
  exact ⟨rfl, rfl⟩
theorem call_nil (w : World) : Calls Try.prog 9 #[.pointer none] w fun e w' => e = .returned (.tuple #[.int .i64 0, .bool false]) ∧ w = w' := by
  go_enter Try.func9, Try.ntmps9
  go_wp2
  go_ret2
  exact ⟨rfl, rfl⟩
end Go.Proofs.Ytiaknanflgdmoaa
