/- attempts: Finished. (Under way.) -/
import Derived.Test.YtahpbcacfdkdjaaBoard12
namespace At
def fin (S : Bd) : Bool := (S.tasks.drop S.maps).all fun k => decide (k.winner ≠ 0)
end At
namespace Go.Proofs.Ytahpbcacfdkdjaa
open Go.RowKit
set_option linter.unusedVariables false
set_option linter.unusedSimpArgs false
set_option maxRecDepth 20000 in
set_option maxHeartbeats 4000000 in
theorem fin_c (b g : Nat) (vs : List Value) (S : At.Bd) (hSl : S.tasks.length ≤ 100000) (hm : S.maps ≤ S.tasks.length) (w : World) (h : BoardAt w b g vs S) :
    Calls Try.prog 5 #[.pointer (some ⟨b, 0, none⟩)] w fun e w' => e = .returned (.bool (At.fin S)) ∧ Fr w w' (fun _ => False) := by
  have z : ∀ j, w.cell? ⟨b, j, none⟩ = [Value.int .i64 (S.maps : Int), .int .i64 S.limit, .int .i64 S.patience, .slice (some ⟨g, 0, none⟩) S.tasks.length S.tasks.length, .int .i64 S.opn, .bool S.dead][j]? := fun j => h.blk.cell j
  have HA := Lib.hid h
  clear h
  obtain ⟨nn, hnn⟩ : ∃ nn, nn = S.tasks.length := ⟨_, rfl⟩
  obtain ⟨mm, hmm⟩ : ∃ mm, mm = S.maps := ⟨_, rfl⟩
  obtain ⟨kk, hkk⟩ : ∃ kk, kk = nn - mm := ⟨_, rfl⟩
  rw [← hnn] at z hSl hm
  rw [← hmm] at z hm
  have HNN := Lib.hid (And.intro hnn (And.intro hmm hkk))
  have HNB := Lib.hid (And.intro hSl hm)
  have m1 : (mm : Int) ≤ (nn : Int) := by omega
  have m0 : (0 : Int) ≤ (mm : Int) := by omega
  have ma : ((mm : Int)).toNat = mm := by omega
  have hk1 : nn - mm = kk := hkk.symm
  clear hnn hSl hmm hkk
  by_cases he : nn = mm
  · have k0 : kk = 0 := by omega
    have HF : Hid (At.fin S = true) := Lib.hid (by
      unfold At.fin
      rw [List.drop_eq_nil_of_le (by have := HNN.out; omega)]
      rfl)
    rw [HF.out]
    subst k0
    subst he
    go_enter Try.func5, Try.ntmps5
    go_wp2_with fail
    go_quiet (fail)
    go_wp2_with fail
    have hz := Lib.hid ((Fr.refl w (fun _ => False)).drewN nq)
    clear z
    generalize w.drewN nq = w1 at hz ⊢
    go_loopg [17] 0 (fun gg v17 wr => v17 = .int .i64 0 ∧ gg = 0 ∧ wr = w1)
    case atStart => exact ⟨rfl, rfl, rfl⟩
    case round =>
      obtain ⟨rfl, rfl, rfl⟩ := hrel
      go_wp2
      go_ret
      exact ⟨rfl, hz.out⟩
  · have hlt : mm < nn := by omega
    go_enter Try.func5, Try.ntmps5
    go_wp2_with fail
    go_quiet (fail)
    go_wp2_with fail
    have hz := Lib.hid ((Fr.refl w (fun _ => False)).drewN nq)
    clear z
    generalize w.drewN nq = w1 at hz ⊢
    go_loopg [17] kk (fun gg v17 wr => ∃ i : Nat, v17 = .int .i64 (i : Int) ∧ i + gg = kk ∧ Hid (∀ q k, q < i → S.tasks[mm + q]? = some k → k.winner ≠ 0) ∧ Hid (Fr w wr (fun _ => False)))
    case atStart => exact ⟨0, rfl, by omega, Lib.hid (fun q k h => by omega), hz⟩
    case round =>
      obtain ⟨i, rfl, hgg, HQ, HF⟩ := hrel
      have HG := Lib.hid hgg
      clear hgg hz
      by_cases hlk : i < kk
      · have t1 : decide ((i : Int) < (kk : Int)) = true := decide_eq_true (by omega)
        have t1n : decide (i < kk) = true := decide_eq_true hlk
        obtain ⟨k, hk⟩ : ∃ k, S.tasks[mm + i]? = some k := ⟨S.tasks[mm + i]'(by have := HNN.out; omega), List.getElem?_eq_getElem _⟩
        have HB := Lib.hid ((HA.out.below (Fr.below (B := w.heap.size) HF.out (fun _ _ e => e.elim) (Nat.le_refl _)) (Nat.le_refl _)))
        obtain ⟨v, hv, c0, c1, c2⟩ := HB.out.task hk
        obtain ⟨A, c, rfl⟩ := own_slice (HB.out.own _ v k hv hk)
        have c0' : wr.cell? ⟨g, mm * 3 + i * 3, none⟩ = some (.slice A k.tries.length c) := by rw [← Nat.add_mul]; exact c0
        have c1' : wr.cell? ⟨g, mm * 3 + i * 3 + 1, none⟩ = some (.int .i64 k.winner) := by rw [← Nat.add_mul]; exact c1
        have c2' : wr.cell? ⟨g, mm * 3 + i * 3 + 2, none⟩ = some (.int .i64 k.full) := by rw [← Nat.add_mul]; exact c2
        have ia : ((i : Int)).toNat = i := by omega
        have ip : (0 : Int) ≤ (i : Int) := by omega
        have iz : (i : Int) < (kk : Int) := by omega
        have HK := Lib.hid hk
        have HLK := Lib.hid hlk
        have HF1 := Lib.hid (HF.out.alloc (.cells ([.slice A k.tries.length c, .int .i64 k.winner, .int .i64 k.full] : List Value).toArray 46))
        clear hk hv c0 c1 c2 hlk
        by_cases hw : k.winner = 0
        · have b1 : (k.winner == 0) = true := by rw [hw]; rfl
          have HFF : Hid (At.fin S = false) := Lib.hid (by
            unfold At.fin
            rw [List.all_eq_false]
            refine ⟨k, ?_, by simp [hw]⟩
            rw [← HNN.out.2.1]
            exact List.mem_of_getElem? (i := i) (by rw [List.getElem?_drop]; exact HK.out))
          clear hw
          go_wp2
          go_ret
          exact ⟨by rw [HFF.out]; rfl, HF1.out⟩
        · have b1 : (k.winner == 0) = false := beq_eq_false_iff_ne.2 hw
          have HW := Lib.hid hw
          have kw : i + 1 < 100001 := by have := HNB.out; have := HNN.out; have := HLK.out; omega
          clear hw
          go_wp2_with fail
          clear kw
          go_roundg (kk - (i + 1))
          case measure => have := HLK.out; have := HG.out; omega
          case rel => exact ⟨i + 1, by first | rfl | go_num, by have := HLK.out; omega, Lib.hid (fun q k2 hq hk2 => by
              by_cases e : q = i
              · subst e
                rw [HK.out] at hk2
                cases hk2
                exact HW.out
              · exact HQ.out q k2 (by omega) hk2), HF1⟩
      · have t1 : decide ((i : Int) < (kk : Int)) = false := decide_eq_false (by omega)
        have t1n : decide (i < kk) = false := decide_eq_false hlk
        have HFT : Hid (At.fin S = true) := Lib.hid (by
          unfold At.fin
          rw [List.all_eq_true]
          intro k hk
          obtain ⟨q, hq⟩ := List.mem_iff_getElem?.1 hk
          rw [List.getElem?_drop, ← HNN.out.2.1] at hq
          have hql := (List.getElem?_eq_some_iff.1 hq).1
          exact decide_eq_true (HQ.out q k (by have := HNN.out; omega) hq))
        clear hlk
        go_wp2
        go_ret
        exact ⟨by rw [HFT.out]; rfl, HF.out⟩
end Go.Proofs.Ytahpbcacfdkdjaa
