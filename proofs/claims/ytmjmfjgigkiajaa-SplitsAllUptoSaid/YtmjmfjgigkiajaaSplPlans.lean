/- The splits of every size. -/
import Derived.Test.YtmjmfjgigkiajaaSpl
namespace Go.Proofs.Ytmjmfjgigkiajaa
open Go.RowKit
set_option linter.unusedVariables false
set_option linter.unusedSimpArgs false
set_option maxHeartbeats 1000000 in
theorem splSpeaks_any (w : World) : Calls Try.prog 7 #[] w fun e w' => e = .returned (.bool true) ∧ Below w.heap.size w w' := by
  go_enter Try.func7, Try.ntmps7
  go_wp2_with fail
  refine (plan_any 10 4 (by decide) (by decide) (by decide) (by decide) w).mono ?_
  rintro e w' ⟨v, rfl, hO, hB⟩
  rw [show Spl.count 10 (Spl.wide 10 4) = 3 by decide] at hO
  obtain ⟨g, cap, rfl, hg, hlt, hC⟩ := own_some hO (by decide)
  have c4 := (hC.get (j := 4) (v := .int .i64 8) (by kernel_rfl)).1
  have c5 := (hC.get (j := 5) (v := .int .i64 10) (by kernel_rfl)).1
  have HB := Lib.hid hB
  clear hB hO hC
  go_wp2_with fail
  go_ret
  exact ⟨rfl, HB.out⟩
theorem splitCells_get (size wd n k : Nat) (h : k < n) : (splitCells size wd n)[2 * k]? = some (.int .i64 ((k * wd : Nat) : Int)) ∧ (splitCells size wd n)[2 * k + 1]? = some (.int .i64 ((Spl.to size wd k : Nat) : Int)) := by
  induction n with
  | zero => omega
  | succ n ih =>
    have hl : (splitCells size wd n).length = 2 * n := by
      clear ih h
      induction n with
      | zero => rfl
      | succ n ih => rw [splitCells_succ, List.length_append, ih]; simp; omega
    rw [splitCells_succ]
    by_cases hk : k < n
    · obtain ⟨h1, h2⟩ := ih hk
      rw [List.getElem?_append_left (by omega), List.getElem?_append_left (by omega)]
      exact ⟨h1, h2⟩
    · obtain rfl : k = n := by omega
      rw [List.getElem?_append_right (by omega), List.getElem?_append_right (by omega), hl]
      simp
set_option maxHeartbeats 1000000 in
theorem splitsPlans_walk (a0 : Int) (w0 : (Lit.int .i64 a0).wf = true) (a1 : Int) (w1 : (Lit.int .i64 a1).wf = true) (W : World) :
    Calls Try.prog 3 #[.int .i64 a0, .int .i64 a1] W fun e w' => e = .returned (.bool true) ∧ Below W.heap.size W w' := by
  have hx : -9223372036854775808 ≤ a0 ∧ a0 ≤ 9223372036854775807 := by simpa [Lit.wf, IntKind.min, IntKind.max, IntKind.signed, IntKind.bits] using w0
  have hy : -9223372036854775808 ≤ a1 ∧ a1 ≤ 9223372036854775807 := by simpa [Lit.wf, IntKind.min, IntKind.max, IntKind.signed, IntKind.bits] using w1
  obtain ⟨hx1, hx2⟩ := hx
  obtain ⟨hy1, hy2⟩ := hy
  clear w0 w1
  by_cases h1 : 1099511627776 < a0
  · go_enter Try.func3, Try.ntmps3
    go_wp2_with fail
    refine (splSpeaks_any _).mono ?_
    rintro e w1 ⟨rfl, hb⟩
    have HB := Lib.hid hb
    clear hb
    go_wp2_with fail
    refine (splSpeaks_any _).mono ?_
    rintro e w2 ⟨rfl, hb⟩
    have HB2 := Lib.hid (below_then HB.out HB.out.size hb)
    clear hb
    go_wp2_with fail
    go_ret
    exact ⟨rfl, HB2.out⟩
  by_cases h2 : a0 < 1
  · go_enter Try.func3, Try.ntmps3
    go_wp2_with fail
    refine (splSpeaks_any _).mono ?_
    rintro e w1 ⟨rfl, hb⟩
    have HB := Lib.hid hb
    clear hb
    go_wp2_with fail
    refine (plan_none _ _ h2 _).mono ?_
    rintro e w' ⟨rfl, rfl⟩
    go_wp2_with fail
    refine (refPlan_none _ _ h2 _).mono ?_
    rintro e w' ⟨rfl, rfl⟩
    go_wp2_with fail
    go_loop [7] (fun i => i = .int .i64 0) (fun _ => 0)
    case atStart => rfl
    case round =>
      subst hrel
      go_wp2
      go_ret
      exact ⟨rfl, HB.out⟩
  obtain ⟨n, rfl⟩ : ∃ n : Nat, a0 = n := ⟨a0.toNat, by omega⟩
  have hn1 : 1 ≤ n := by omega
  have hn2 : n ≤ 1099511627776 := by omega
  have HP := fun w => Lib.hid (plan_any n a1 hn1 hn2 hy1 hy2 w)
  have HR := fun w => Lib.hid (refPlan_any n a1 hn1 hn2 hy1 hy2 w)
  have hcl := Spl.count_le a1 hn1
  have hcp := Spl.count_pos n (Spl.wide n a1)
  generalize Spl.wide n a1 = wd at HP HR hcl hcp
  generalize Spl.count n wd = m at HP HR hcl hcp
  have HG := Lib.hid (splitCells_get n wd m)
  generalize splitCells n wd m = sc at HP HR HG
  go_enter Try.func3, Try.ntmps3
  go_wp2_with fail
  refine (splSpeaks_any _).mono ?_
  rintro e w1 ⟨rfl, hb⟩
  have HB := Lib.hid hb
  clear hb
  go_wp2_with fail
  refine (HP w1).out.mono ?_
  rintro e w2 ⟨v, rfl, hO, hB2⟩
  obtain ⟨g, cap, rfl, hg, hlt, hC⟩ := own_some hO hcp
  have HC := Lib.hid hC
  have HB2 := Lib.hid (below_then HB.out HB.out.size hB2)
  clear hC hO hB2 hg
  go_wp2_with fail
  refine (HR w2).out.mono ?_
  rintro e w3 ⟨v, rfl, hO, hB3⟩
  obtain ⟨g2, cap2, rfl, hg2, hlt2, hC2⟩ := own_some hO (by omega)
  have HC1 := Lib.hid (HC.out.below hB3 hlt)
  have HC2 := Lib.hid hC2
  have HB3 := Lib.hid (below_then HB2.out HB2.out.size hB3)
  clear hC2 hO hB3 hg2 HC
  go_wp2
  go_loopw [7] (fun i wr => ∃ k : Nat, i = .int .i64 k ∧ k ≤ m ∧ ∃ q, wr = w3.drewN q) (fun i _ => m - (intOf i).toNat)
  case atStart => exact ⟨0, rfl, by omega, 0, rfl⟩
  case round =>
    obtain ⟨k, rfl, hk, q, rfl⟩ := hrel
    by_cases hkm : k < m
    · obtain ⟨g1a, g1b⟩ := HG.out k hkm
      have c1 := (HC1.out.get (j := k * 2) (by rw [Nat.mul_comm]; exact g1a)).1
      have c2 := (HC1.out.get (j := k * 2 + 1) (by rw [Nat.mul_comm]; exact g1b)).1
      have c3 := (HC2.out.get g1a).1
      have c4 := (HC2.out.get g1b).1
      clear g1a g1b
      generalize k * wd = x1 at c1 c3
      generalize Spl.to n wd k = x2 at c2 c4
      go_upto_region 10 with (fail)
      go_quiet (fail)
      go_wp2
      go_roundw
      case rel => exact ⟨k + 1, by go_num, by omega, _, rfl⟩
      case measure => simp [intOf]; omega
    · go_wp2
      go_ret
      exact ⟨rfl, below_drewN HB3.out _⟩
end Go.Proofs.Ytmjmfjgigkiajaa
