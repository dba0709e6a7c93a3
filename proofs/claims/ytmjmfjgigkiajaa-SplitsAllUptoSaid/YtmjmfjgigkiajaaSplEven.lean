/- Splits follow one another without a gap, all of one size but the last. -/
import Derived.Test.YtmjmfjgigkiajaaSplPlans
namespace Go.Proofs.Ytmjmfjgigkiajaa
open Go.RowKit
set_option linter.unusedVariables false
set_option linter.unusedSimpArgs false
/-- what the law asks of the k-th split -/
theorem spl_facts {size wd m : Nat} (hs : 1 ≤ size) (hw : 1 ≤ wd) (hm : Spl.count size wd = m) (k : Nat) (hk : k < m) :
    k * wd + 1 ≤ Spl.to size wd k ∧ Spl.to size wd k ≤ size ∧ (0 < k → Spl.to size wd k ≤ k * wd + Spl.to size wd 0) ∧ (k + 1 < m → Spl.to size wd k = k * wd + Spl.to size wd 0) ∧
      (k + 1 < m → Spl.to size wd k = (k + 1) * wd) ∧ (k + 1 = m → Spl.to size wd k = size) ∧ (1 < m → Spl.to size wd 0 = wd) := by
  have h1 := (Spl.lt_count (k := k) hs hw)
  have h2 := (Spl.lt_count (k := k + 1) hs hw)
  rw [hm] at h1 h2
  have h3 := Spl.succ_mul' k wd
  have h4 := h1.1 hk
  unfold Spl.to
  rw [hm]
  by_cases hl : k + 1 < m
  · have h5 := h2.1 hl
    rw [if_pos hl]
    by_cases h0 : 0 + 1 < m
    · rw [if_pos h0]; simp; omega
    · omega
  · have h5 : ¬ (k + 1) * wd < size := fun h => hl (h2.2 h)
    rw [if_neg hl]
    by_cases h0 : 0 + 1 < m
    · rw [if_pos h0]; simp; omega
    · rw [if_neg h0]
      obtain rfl : k = 0 := by omega
      simp; omega
set_option maxRecDepth 100000 in
set_option maxHeartbeats 8000000 in
theorem splitsEven_walk1 (n : Nat) (a1 : Int) (hn1 : 1 ≤ n) (hn2 : n ≤ 1099511627776) (hy1 : -9223372036854775808 ≤ a1) (hy2 : a1 ≤ 9223372036854775807) (W : World) :
    Calls Try.prog 4 #[.int .i64 n, .int .i64 a1] W fun e w' => e = .returned (.bool true) ∧ Below W.heap.size W w' := by
  have HP := fun w => Lib.hid (plan_any n a1 hn1 hn2 hy1 hy2 w)
  have hcl := Spl.count_le a1 hn1
  have hcp := Spl.count_pos n (Spl.wide n a1)
  have hwp := Spl.wide_pos n a1
  have hwa : a1 ≤ (Spl.wide n a1 : Int) := by unfold Spl.wide; omega
  generalize Spl.wide n a1 = wd at HP hcl hcp hwp hwa
  have HF := fun m hm => Lib.hid (spl_facts (m := m) hn1 hwp hm)
  generalize hm : Spl.count n wd = m at HP hcl hcp
  have HF2 := HF m hm
  clear HF
  have HF := HF2
  clear HF2
  have HMM := Lib.hid hm
  clear hm
  have HG := Lib.hid (splitCells_get n wd m)
  generalize splitCells n wd m = sc at HP HG
  have hz := HF.out 0 hcp
  have HM := Lib.hid (Spl.succ_mul' · wd)
  generalize hT : Spl.to n wd = T at HF HG hz
  clear hT
  obtain ⟨z1, z2, _, _, _, _, z3⟩ := hz
  rw [Nat.zero_mul] at z1
  have Z3 := Lib.hid z3
  clear z3
  go_enter Try.func4, Try.ntmps4
  go_wp2_with fail
  refine (splSpeaks_any _).mono ?_
  rintro e w1 ⟨rfl, hb⟩
  have HB := Lib.hid hb
  clear hb
  go_wp2_with fail
  refine (HP w1).out.mono ?_
  rintro e w2 ⟨v, rfl, hO, hB2⟩
  obtain ⟨g, cap, rfl, hg, hlt, hC⟩ := own_some hO hcp
  have HC := Lib.hid hC
  have HB2 := Lib.hid (below_then HB.out HB.out.size hB2)
  clear hC hO hB2 hg
  have c0 : w2.cell? ⟨g, 1, none⟩ = some (.int .i64 (T 0 : Nat)) := (HC.out.get (HG.out 0 hcp).2).1
  go_wp2
  go_loopg [6, 7, 8] m (fun g8 at_ i n8 wr => ∃ k x : Nat, i = .int .i64 k ∧ k ≤ m ∧ Hid (g8 + k = m) ∧ at_ = .int .i64 x ∧ Hid (k < m → x = k * wd) ∧ Hid (k = m → x = n) ∧ ∃ q, wr = w2.drewN q)
  case atStart => exact ⟨0, 0, rfl, by omega, Lib.hid rfl, rfl, Lib.hid (by simp), Lib.hid (by omega), 0, rfl⟩
  case round =>
    obtain ⟨k, x, rfl, hk, HGk, rfl, HX, HX2, q, rfl⟩ := hrel
    by_cases hkm : k < m
    · by_cases hk0 : 0 < k
      · obtain ⟨g1a, g1b⟩ := HG.out k hkm
        have c1 := (HC.out.get (j := k * 2) (by rw [Nat.mul_comm]; exact g1a)).1
        have c2 := (HC.out.get (j := k * 2 + 1) (by rw [Nat.mul_comm]; exact g1b)).1
        clear g1a g1b
        obtain ⟨f1, f2, f3, f4, f5, f6, f7⟩ := HF.out k hkm
        rw [← HX.out hkm] at c1 f1 f3 f4
        have F3 := Lib.hid f3
        have F4 := Lib.hid f4
        have F5 := Lib.hid f5
        have F6 := Lib.hid f6
        clear f3 f4 f5 f6 f7
        generalize T k = y at c2 f1 f2 F3 F4 F5 F6
        go_upto_region 10 with (fail)
        go_quiet (fail)
        have f3 := F3.out hk0
        by_cases hl : k + 1 < m
        · have b2 : ((y : Int) - (x : Int) != (T 0 : Int)) = false := by have f4 := F4.out hl; simp; omega
          have f5 := Lib.hid (F5.out hl)
          go_wp2
          go_roundg (gk - 1)
          case measure => have := HGk.out; omega
          case rel => exact ⟨k + 1, y, by go_num, by omega, Lib.hid (by have := HGk.out; omega), rfl, Lib.hid fun _ => f5.out, Lib.hid (by omega), _, rfl⟩
        · have b2 : ¬ ((k : Int) < (m : Int) - 1) := by omega
          have f6 := Lib.hid (F6.out (by omega))
          go_wp2
          go_roundg (gk - 1)
          case measure => have := HGk.out; omega
          case rel => exact ⟨k + 1, y, by go_num, by omega, Lib.hid (by have := HGk.out; omega), rfl, Lib.hid (by omega), Lib.hid fun _ => f6.out, _, rfl⟩
      · obtain rfl : k = 0 := by omega
        obtain rfl : x = 0 := by have := HX.out hkm; omega
        have c1 : w2.cell? ⟨g, 0, none⟩ = some (.int .i64 0) := by have := (HC.out.get (HG.out 0 hcp).1).1; simpa using this
        have hF := Lib.hid (HF.out 0 hkm)
        go_upto_region 10 with (fail)
        go_quiet (fail)
        by_cases hl : 1 < m
        · have b2 : (0 : Int) < (m : Int) - 1 := by omega
          have b3 : ¬ ((T 0 : Int) < 1) := by omega
          have h5 := Lib.hid ((hF.out).2.2.2.2.1 (by omega))
          clear hl hF
          go_wp2
          go_roundg (gk - 1)
          case measure => have := HGk.out; omega
          case rel => exact ⟨1, T 0, rfl, by omega, Lib.hid (by have := HGk.out; omega), rfl, Lib.hid fun _ => h5.out, Lib.hid (by omega), _, rfl⟩
        · obtain rfl : m = 1 := by omega
          clear hl hkm hcp hcl hk
          go_wp2
          go_roundg (gk - 1)
          case measure => have := HGk.out; omega
          case rel =>
            exact ⟨1, n, rfl, by omega, Lib.hid (by have := HGk.out; omega), rfl, Lib.hid (fun h => absurd h (by decide)), Lib.hid fun _ => rfl, _, rfl⟩
    · obtain rfl : k = m := by omega
      obtain rfl := HX2.out rfl
      by_cases h1 : k = 1
      · subst h1
        go_wp2
        go_ret
        exact ⟨rfl, below_drewN HB2.out _⟩
      · have z3 := Z3.out (by omega)
        have hb : ((k : Int) == 1) = false := by simp; omega
        rw [z3] at c0
        clear z3
        go_wp2
        all_goals (go_ret; exact ⟨ret_bool (by simp; try omega), below_drewN HB2.out _⟩)
set_option maxHeartbeats 1000000 in
set_option maxRecDepth 100000 in
theorem splitsEven_walk (a0 : Int) (w0 : (Lit.int .i64 a0).wf = true) (a1 : Int) (w1 : (Lit.int .i64 a1).wf = true) (W : World) :
    Calls Try.prog 4 #[.int .i64 a0, .int .i64 a1] W fun e w' => e = .returned (.bool true) ∧ Below W.heap.size W w' := by
  have hx : -9223372036854775808 ≤ a0 ∧ a0 ≤ 9223372036854775807 := by simpa [Lit.wf, IntKind.min, IntKind.max, IntKind.signed, IntKind.bits] using w0
  have hy : -9223372036854775808 ≤ a1 ∧ a1 ≤ 9223372036854775807 := by simpa [Lit.wf, IntKind.min, IntKind.max, IntKind.signed, IntKind.bits] using w1
  obtain ⟨hx1, hx2⟩ := hx
  obtain ⟨hy1, hy2⟩ := hy
  clear w0 w1
  by_cases h1 : 1099511627776 < a0
  · go_enter Try.func4, Try.ntmps4
    go_wp2_with fail
    refine (splSpeaks_any _).mono ?_
    rintro e w1 ⟨rfl, hb⟩
    have HB := Lib.hid hb
    clear hb
    go_wp2_with fail
    go_ret
    exact ⟨ret_bool (by simp), HB.out⟩
  by_cases h2 : a0 < 1
  · go_enter Try.func4, Try.ntmps4
    go_wp2_with fail
    refine (splSpeaks_any _).mono ?_
    rintro e w1 ⟨rfl, hb⟩
    have HB := Lib.hid hb
    clear hb
    go_wp2_with fail
    refine (plan_none _ _ h2 _).mono ?_
    rintro e w' ⟨rfl, rfl⟩
    go_wp2_with fail
    go_ret
    exact ⟨rfl, HB.out⟩
  obtain ⟨n, rfl⟩ : ∃ n : Nat, a0 = n := ⟨a0.toNat, by omega⟩
  exact splitsEven_walk1 n a1 (by omega) (by omega) hy1 hy2 W
end Go.Proofs.Ytmjmfjgigkiajaa
