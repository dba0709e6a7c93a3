/- attempts: Winner. (Under way.) -/
import Derived.Test.YtahpbcacfdkdjaaBoard5
namespace At
def winner (S : Bd) (t : Int) : Int × Int × Bool := if 0 ≤ t then (match S.tasks[t.toNat]? with
  | some k => if k.winner = 0 then (0, 0, false) else (match k.tries[(k.winner - 1).toNat]? with
    | some a => (a.node, k.winner, true)
    | none => (0, 0, false))
  | none => (0, 0, false)) else (0, 0, false)
end At
namespace Go.Proofs.Ytahpbcacfdkdjaa
open Go.RowKit
set_option linter.unusedVariables false
set_option linter.unusedSimpArgs false
set_option maxHeartbeats 1000000 in
theorem winner_nil (t : Int) (w : World) : Calls Try.prog 10 #[.pointer none, .int .i64 t] w fun e w' => e = .returned (.tuple #[.int .i64 0, .int .i64 0, .bool false]) ∧ w = w' := by
  go_enter Try.func10, Try.ntmps10
  go_wp2_with fail
  refine (has_nil t w).mono ?_
  rintro _ _ ⟨rfl, rfl⟩
  go_wp2
  go_ret3
  exact ⟨rfl, rfl⟩
set_option maxRecDepth 20000 in
set_option maxHeartbeats 2000000 in
theorem winner_c (b g : Nat) (vs : List Value) (S : At.Bd) (hS : S.Wf) (hwin : ∀ t ∈ S.tasks, 0 ≤ t.winner ∧ t.winner ≤ t.tries.length) (t : Int) (w : World) (h : BoardAt w b g vs S) :
    Calls Try.prog 10 #[.pointer (some ⟨b, 0, none⟩), .int .i64 t] w fun e w' => e = .returned (.tuple #[.int .i64 (At.winner S t).1, .int .i64 (At.winner S t).2.1, .bool (At.winner S t).2.2]) ∧ w = w' := by
  have z : ∀ j, w.cell? ⟨b, j, none⟩ = [Value.int .i64 (S.maps : Int), .int .i64 S.limit, .int .i64 S.patience, .slice (some ⟨g, 0, none⟩) S.tasks.length S.tasks.length, .int .i64 S.opn, .bool S.dead][j]? := fun j => h.blk.cell j
  have HH := Lib.hid (has_c b g vs S t w h)
  have HA := Lib.hid h
  have hlen := hS.len
  have HTR := Lib.hid hS.tr
  have HWN := Lib.hid hwin
  clear h hS hwin
  by_cases hin : 0 ≤ t ∧ t < (S.tasks.length : Int)
  · obtain ⟨i, rfl⟩ : ∃ i : Nat, t = (i : Int) := ⟨t.toNat, by omega⟩
    obtain ⟨k, hk⟩ : ∃ k, S.tasks[i]? = some k := ⟨S.tasks[i]'(by omega), List.getElem?_eq_getElem _⟩
    rw [show (decide (0 ≤ (i : Int)) && decide ((i : Int) < (S.tasks.length : Int))) = true by rw [decide_eq_true hin.1, decide_eq_true hin.2]; rfl] at HH
    obtain ⟨v, hv, c0, c1, c2⟩ := HA.out.task hk
    have ia : ((i : Int)).toNat = i := by omega
    have ip : (0 : Int) ≤ (i : Int) := by omega
    have iz : (i : Int) < (S.tasks.length : Int) := hin.2
    have hwn := HWN.out k (List.mem_of_getElem? hk)
    have HK := Lib.hid hk
    have HV := Lib.hid hv
    generalize S.tasks.length = n at *
    clear hin hk hv hlen
    by_cases h0 : k.winner = 0
    · have HR : Hid (At.winner S (i : Int) = (0, 0, false)) := Lib.hid (by unfold At.winner; rw [if_pos (by omega), Int.toNat_natCast, HK.out]; simp [h0])
      rw [h0] at c1
      rw [HR.out]
      clear h0 hwn
      go_enter Try.func10, Try.ntmps10
      go_wp2_with fail
      refine HH.out.mono ?_
      rintro _ _ ⟨rfl, rfl⟩
      go_wp2
      go_ret3
      exact ⟨rfl, rfl⟩
    · obtain ⟨j, hj⟩ : ∃ j : Nat, k.winner = (j : Int) + 1 := ⟨(k.winner - 1).toNat, by omega⟩
      obtain ⟨a, ha⟩ : ∃ a, k.tries[j]? = some a := ⟨k.tries[j]'(by omega), List.getElem?_eq_getElem _⟩
      have HR : Hid (At.winner S (i : Int) = (a.node, k.winner, true)) := Lib.hid (by unfold At.winner; rw [if_pos (by omega), Int.toNat_natCast, HK.out]; simp only [if_neg h0]; rw [show (k.winner - 1).toNat = j by omega, ha])
      obtain ⟨r, c, hvr, _, d0, _, _, _, _⟩ := HA.out.setTry HK.out ha
      obtain rfl := Option.some.inj (HV.out.symm.trans hvr)
      have t0 : (k.winner == 0) = false := beq_eq_false_iff_ne.2 h0
      have e1 : wrap64 (k.winner - 1) = (j : Int) := by rw [hj]; have := (HTR.out k (List.mem_of_getElem? HK.out)).1; unfold wrap64; omega
      have e2 : IntKind.i64.wrap (k.winner - 1) = (j : Int) := by rw [hj, IntKind.wrap_i64]; have := (HTR.out k (List.mem_of_getElem? HK.out)).1; omega
      have ja : ((j : Int)).toNat = j := by omega
      have jp : (0 : Int) ≤ (j : Int) := by omega
      have jz : (j : Int) < (k.tries.length : Int) := by omega
      rw [HR.out]
      generalize k.winner = wn at *
      generalize k.tries.length = tn at *
      clear h0 hwn hj hvr ha
      go_enter Try.func10, Try.ntmps10
      go_wp2_with fail
      refine HH.out.mono ?_
      rintro _ _ ⟨rfl, rfl⟩
      go_wp2
      go_ret3
      exact ⟨rfl, rfl⟩
  · have HR : Hid (At.winner S t = (0, 0, false)) := Lib.hid (by
      unfold At.winner
      by_cases h0 : 0 ≤ t
      · rw [if_pos h0, List.getElem?_eq_none (by omega)]
      · rw [if_neg h0])
    rw [show (decide (0 ≤ t) && decide (t < (S.tasks.length : Int))) = false by
      by_cases h0 : 0 ≤ t
      · rw [decide_eq_false (p := t < (S.tasks.length : Int)) (by omega), Bool.and_false]
      · rw [decide_eq_false h0, Bool.false_and]] at HH
    rw [HR.out]
    clear hin hlen
    go_enter Try.func10, Try.ntmps10
    go_wp2_with fail
    refine HH.out.mono ?_
    rintro _ _ ⟨rfl, rfl⟩
    go_wp2
    go_ret3
    exact ⟨rfl, rfl⟩
end Go.Proofs.Ytahpbcacfdkdjaa
