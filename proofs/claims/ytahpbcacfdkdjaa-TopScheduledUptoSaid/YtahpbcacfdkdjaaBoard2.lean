/- attempts: what only reads a board: has, may, Dead, under. (Under way.) -/
import Derived.Test.YtahpbcacfdkdjaaBoard
namespace At
def may (S : Bd) (i : Nat) (t : Task) : Bool := decide (t.winner = 0) && (decide (i < S.maps) || decide (S.opn = 0))
end At
namespace Go.Proofs.Ytahpbcacfdkdjaa
open Go.RowKit
set_option linter.unusedVariables false
set_option linter.unusedSimpArgs false
theorem triesC_len (l : List At.Try) : (triesC l).length = l.length * 3 := by
  unfold triesC
  rw [flatten_len (sz := 3) (fun r hr => by obtain ⟨t, _, rfl⟩ := List.mem_map.1 hr; rfl), List.length_map]
theorem BoardAt.task {w : World} {b g : Nat} {vs : List Value} {S : At.Bd} (h : BoardAt w b g vs S) {i : Nat} {t : At.Task} (ht : S.tasks[i]? = some t) :
    ∃ v, vs[i]? = some v ∧ w.cell? ⟨g, i * 3, none⟩ = some v ∧ w.cell? ⟨g, i * 3 + 1, none⟩ = some (.int .i64 t.winner) ∧ w.cell? ⟨g, i * 3 + 2, none⟩ = some (.int .i64 t.full) := by
  obtain ⟨hi, _⟩ := List.getElem?_eq_some_iff.1 ht
  obtain ⟨v, hv⟩ : ∃ v, vs[i]? = some v := ⟨vs[i]'(by rw [h.len]; exact hi), List.getElem?_eq_getElem _⟩
  have hz : (List.zipWith taskC vs S.tasks)[i]? = some (taskC v t) := by rw [List.getElem?_zipWith, hv, ht]
  have key : ∀ j, j < 3 → w.cell? ⟨g, i * 3 + j, none⟩ = (taskC v t)[j]? := fun j hj => by
    rw [h.tsk.cell]
    unfold tasksC
    refine flatten_get (sz := 3) (fun r hr => ?_) hz hj
    obtain ⟨k, hk⟩ := List.mem_iff_getElem?.1 hr
    rw [List.getElem?_zipWith] at hk
    cases h1 : vs[k]? <;> cases h2 : S.tasks[k]? <;> rw [h1, h2] at hk <;> simp at hk
    rw [← hk]; rfl
  exact ⟨v, hv, key 0 (by decide), key 1 (by decide), key 2 (by decide)⟩
set_option maxHeartbeats 1000000 in
theorem has_nil (t : Int) (w : World) : Calls Try.prog 16 #[.pointer none, .int .i64 t] w fun e w' => e = .returned (.bool false) ∧ w = w' := by
  go_enter Try.func16, Try.ntmps16
  go_wp2
  go_ret
  exact ⟨rfl, rfl⟩
set_option maxHeartbeats 1000000 in
theorem has_c (b g : Nat) (vs : List Value) (S : At.Bd) (t : Int) (w : World) (h : BoardAt w b g vs S) : Calls Try.prog 16 #[.pointer (some ⟨b, 0, none⟩), .int .i64 t] w fun e w' => e = .returned (.bool (decide (0 ≤ t) && decide (t < S.tasks.length))) ∧ w = w' := by
  have z : ∀ j, w.cell? ⟨b, j, none⟩ = [Value.int .i64 (S.maps : Int), .int .i64 S.limit, .int .i64 S.patience, .slice (some ⟨g, 0, none⟩) S.tasks.length S.tasks.length, .int .i64 S.opn, .bool S.dead][j]? := fun j => h.blk.cell j
  clear h
  generalize S.tasks.length = n at *
  by_cases h0 : 0 ≤ t
  · have t1 : decide (0 ≤ t) = true := decide_eq_true h0
    by_cases h1 : t < (n : Int)
    · have t2 : decide (t < (n : Int)) = true := decide_eq_true h1
      rw [t1, t2]
      clear h0 h1
      go_enter Try.func16, Try.ntmps16
      go_wp2
      go_ret
      exact ⟨rfl, rfl⟩
    · have t2 : decide (t < (n : Int)) = false := decide_eq_false h1
      rw [t1, t2]
      clear h0 h1
      go_enter Try.func16, Try.ntmps16
      go_wp2
      go_ret
      exact ⟨rfl, rfl⟩
  · have t1 : decide (0 ≤ t) = false := decide_eq_false h0
    rw [t1, Bool.false_and]
    clear h0
    go_enter Try.func16, Try.ntmps16
    go_wp2
    go_ret
    exact ⟨rfl, rfl⟩
set_option maxHeartbeats 1000000 in
theorem dead_nil (w : World) : Calls Try.prog 11 #[.pointer none] w fun e w' => e = .returned (.bool false) ∧ w = w' := by
  go_enter Try.func11, Try.ntmps11
  go_wp2
  go_ret
  exact ⟨rfl, rfl⟩
set_option maxHeartbeats 1000000 in
theorem dead_c (b g : Nat) (vs : List Value) (S : At.Bd) (w : World) (h : BoardAt w b g vs S) : Calls Try.prog 11 #[.pointer (some ⟨b, 0, none⟩)] w fun e w' => e = .returned (.bool S.dead) ∧ w = w' := by
  have z : ∀ j, w.cell? ⟨b, j, none⟩ = [Value.int .i64 (S.maps : Int), .int .i64 S.limit, .int .i64 S.patience, .slice (some ⟨g, 0, none⟩) S.tasks.length S.tasks.length, .int .i64 S.opn, .bool S.dead][j]? := fun j => h.blk.cell j
  clear h
  go_enter Try.func11, Try.ntmps11
  go_wp2
  go_ret
  exact ⟨rfl, rfl⟩
set_option maxHeartbeats 2000000 in
theorem may_c (b g : Nat) (vs : List Value) (S : At.Bd) (i : Nat) (t : At.Task) (ht : S.tasks[i]? = some t) (w : World) (h : BoardAt w b g vs S) (hn : S.tasks.length ≤ 100000) :
    Calls Try.prog 13 #[.pointer (some ⟨b, 0, none⟩), .int .i64 (i : Int)] w fun e w' => e = .returned (.bool (At.may S i t)) ∧ w = w' := by
  have z : ∀ j, w.cell? ⟨b, j, none⟩ = [Value.int .i64 (S.maps : Int), .int .i64 S.limit, .int .i64 S.patience, .slice (some ⟨g, 0, none⟩) S.tasks.length S.tasks.length, .int .i64 S.opn, .bool S.dead][j]? := fun j => h.blk.cell j
  obtain ⟨v, hv, c0, c1, c2⟩ := h.task ht
  have hi := (List.getElem?_eq_some_iff.1 ht).1
  unfold At.may
  clear h ht hv
  generalize S.tasks.length = n at *
  obtain ⟨tr, wi, fu⟩ := t
  obtain ⟨mp, li, pa, ts, op, de⟩ := S
  dsimp only at *
  have iz : (i : Int) < (n : Int) := by omega
  have ip : (0 : Int) ≤ (i : Int) := by omega
  have ia : ((i : Int)).toNat = i := by omega
  by_cases hw : wi = 0
  · subst hw
    by_cases hm : i < mp
    · have t1 : decide ((i : Int) < (mp : Int)) = true := decide_eq_true (by omega)
      have t1n : decide (i < mp) = true := decide_eq_true hm
      rw [t1n]
      clear hm
      go_enter Try.func13, Try.ntmps13
      go_wp2
      go_ret
      exact ⟨rfl, rfl⟩
    · have t1 : decide ((i : Int) < (mp : Int)) = false := decide_eq_false (by omega)
      have t1n : decide (i < mp) = false := decide_eq_false hm
      by_cases ho : op = 0
      · subst ho
        rw [t1n]
        clear hm
        go_enter Try.func13, Try.ntmps13
        go_wp2
        go_ret
        exact ⟨rfl, rfl⟩
      · have t2 : (op == 0) = false := beq_eq_false_iff_ne.2 ho
        rw [t1n, decide_eq_false ho]
        clear hm ho
        go_enter Try.func13, Try.ntmps13
        go_wp2
        go_ret
        exact ⟨rfl, rfl⟩
  · have t1 : (wi == 0) = false := beq_eq_false_iff_ne.2 hw
    rw [decide_eq_false hw, Bool.false_and]
    clear hw
    go_enter Try.func13, Try.ntmps13
    go_wp2
    go_ret
    exact ⟨rfl, rfl⟩
end Go.Proofs.Ytahpbcacfdkdjaa
