/- attempts: Lost, every call. (Under way.) -/
import Derived.Test.YtkcloaoaldklhaaBoard10
namespace At
def lose (S : Bd) (i : Nat) (k : Task) (j : Nat) (a : Try) : Bd := { S with tasks := S.tasks.set i { k with tries := k.tries.set j { a with state := 4 }, winner := 0 }, opn := S.opn + 1 }
def lost (S : Bd) (t n : Int) : Bool × Bd := if 0 ≤ t then (match S.tasks[t.toNat]? with
  | some k => if t.toNat < S.maps ∧ 1 ≤ n ∧ k.winner = n then (match k.tries[(n - 1).toNat]? with
    | some a => (true, lose S t.toNat k (n - 1).toNat a)
    | none => (false, S)) else (false, S)
  | none => (false, S)) else (false, S)
end At
namespace Go.Proofs.Ytkcloaoaldklhaa
open Go.RowKit
set_option linter.unusedVariables false
set_option linter.unusedSimpArgs false
set_option maxRecDepth 20000 in
set_option maxHeartbeats 4000000 in
theorem lost_ok (b g : Nat) (vs : List Value) (S : At.Bd) (hSl : S.tasks.length ≤ 100000) (i : Nat) (k : At.Task) (hk : S.tasks[i]? = some k) (j : Nat) (a : At.Try) (ha : k.tries[j]? = some a) (n : Int) (hn : n = (j : Int) + 1) (hm : i < S.maps) (hw : k.winner = n) (hln : k.tries.length ≤ 5000000000001)
    (hop : -100000 ≤ S.opn ∧ S.opn ≤ 100000) (w : World) (h : BoardAt w b g vs S) :
    Calls Try.prog 12 #[.pointer (some ⟨b, 0, none⟩), .int .i64 (i : Int), .int .i64 n] w fun e w' => e = .returned (.bool true) ∧ BoardAt w' b g vs (At.lose S i k j a) ∧ BdR w b g vs w' vs := by
  have z : ∀ j, w.cell? ⟨b, j, none⟩ = [Value.int .i64 (S.maps : Int), .int .i64 S.limit, .int .i64 S.patience, .slice (some ⟨g, 0, none⟩) S.tasks.length S.tasks.length, .int .i64 S.opn, .bool S.dead][j]? := fun j => h.blk.cell j
  have hi := (List.getElem?_eq_some_iff.1 hk).1
  have hjl := (List.getElem?_eq_some_iff.1 ha).1
  have HH := Lib.hid (has_c b g vs S (i : Int) w h)
  rw [has_in hi] at HH
  obtain ⟨v, hv, c0, c1, c2⟩ := h.task hk
  obtain ⟨r, c, hvr, _, d0, d1, d2, d3, hset⟩ := h.setTry hk ha
  obtain rfl := Option.some.inj (hv.symm.trans hvr)
  obtain ⟨hB1, hR1⟩ := hset 4
  rw [hw] at c1
  have hb2 := hB1.setTask (i := i) (t := { k with tries := k.tries.set j { a with state := 4 } }) (t' := { k with tries := k.tries.set j { a with state := 4 }, winner := 0 }) (List.getElem?_set_self hi) rfl 1 (by decide) (.int .i64 0) (fun v => rfl)
  have hb3 := hb2.1.setOpen (S.opn + 1)
  have HB1 := Lib.hid hB1
  have HR1 := Lib.hid hR1
  have HB2 := Lib.hid hb2
  have HB3 := Lib.hid hb3
  have HK1 : Hid ((S.tasks.set i { k with tries := k.tries.set j { a with state := 4 } })[i]? = some { k with tries := k.tries.set j { a with state := 4 } }) := Lib.hid (List.getElem?_set_self hi)
  have ia : ((i : Int)).toNat = i := by omega
  have ip : (0 : Int) ≤ (i : Int) := by omega
  have iz : (i : Int) < (S.tasks.length : Int) := by omega
  have ja : ((j : Int)).toNat = j := by omega
  have jp : (0 : Int) ≤ (j : Int) := by omega
  have jz : (j : Int) < (k.tries.length : Int) := by omega
  have n1 : decide (n < 1) = false := decide_eq_false (by omega)
  have n3 : wrap64 (n - 1) = (j : Int) := by unfold wrap64; omega
  have n4 : IntKind.i64.wrap (n - 1) = (j : Int) := by rw [IntKind.wrap_i64]; omega
  have n5 : decide ((S.maps : Int) ≤ (i : Int)) = false := decide_eq_false (by omega)
  have n5n : decide (S.maps ≤ i) = false := decide_eq_false (by omega)
  have o1 : wrap64 (S.opn + 1) = S.opn + 1 := by unfold wrap64; omega
  have o2 : IntKind.i64.wrap (S.opn + 1) = S.opn + 1 := by rw [IntKind.wrap_i64]; omega
  have HZ : Hid (BoardAt (((w.setCell ⟨r, j * 3 + 2, none⟩ (.int .i64 4)).setCell ⟨g, i * 3 + 1, none⟩ (.int .i64 0)).setCell ⟨b, 4, none⟩ (.int .i64 (S.opn + 1))) b g vs (At.lose S i k j a)) := Lib.hid (by
    have := hb3.1
    unfold At.lose
    simpa using this)
  clear hB1 hR1 hset h hi hjl hk ha hv hvr hop hn hln d0 d1 hm hw hb2 hb3
  generalize hnn : S.tasks.length = nn at *
  have HNN := Lib.hid hnn
  clear hnn
  generalize hkt : k.tries.length = kt at *
  clear hkt
  go_enter Try.func12, Try.ntmps12
  go_wp2_with fail
  refine HH.out.mono ?_
  rintro _ _ ⟨rfl, rfl⟩
  go_upto_region 4 with (fail)
  have z1 : ∀ q, (w.setCell ⟨r, j * 3 + 2, none⟩ (.int .i64 4)).cell? ⟨b, q, none⟩ = [Value.int .i64 (S.maps : Int), .int .i64 S.limit, .int .i64 S.patience, .slice (some ⟨g, 0, none⟩) nn nn, .int .i64 S.opn, .bool S.dead][q]? := fun q => by
    have := HB1.out.blk.cell q
    simpa [HNN.out] using this
  have zf : ∀ q, (w.setCell ⟨r, j * 3 + 2, none⟩ (.int .i64 4)).frozen? ⟨b, q, none⟩ = false := fun q => HB1.out.blk.frozen q
  have zg : ∀ q, (w.setCell ⟨r, j * 3 + 2, none⟩ (.int .i64 4)).frozen? ⟨g, q, none⟩ = false := fun q => HB1.out.tsk.frozen q
  obtain ⟨_, _, _, y1, y2⟩ := HB1.out.task (i := i) HK1.out
  dsimp only at y1 y2
  have hne : b ≠ g := HB1.out.ne
  have hne2 : g ≠ b := fun e => HB1.out.ne e.symm
  clear z c0 c1 c2 d2 d3 HH
  have HR3 := Lib.hid ((HR1.out.trans HB2.out.2).trans HB3.out.2)
  clear HB1 HR1 HB2 HB3 HK1
  generalize w.setCell ⟨r, j * 3 + 2, none⟩ (.int .i64 4) = w1 at z1 zf zg y1 y2 HZ HR3 ⊢
  go_wp2
  exact bodyPost_ret (results_tmp (by rfl) _ _ _) (by rfl) ⟨by rfl, HZ.out, HR3.out⟩
set_option maxRecDepth 20000 in
set_option maxHeartbeats 4000000 in
theorem lost_no (b g : Nat) (vs : List Value) (S : At.Bd) (t n : Int) (hb : ∀ k, 0 ≤ t → S.tasks[t.toNat]? = some k → S.maps ≤ t.toNat ∨ n < 1 ∨ k.winner ≠ n) (w : World) (h : BoardAt w b g vs S) :
    Calls Try.prog 12 #[.pointer (some ⟨b, 0, none⟩), .int .i64 t, .int .i64 n] w fun e w' => e = .returned (.bool false) ∧ w = w' := by
  have z : ∀ j, w.cell? ⟨b, j, none⟩ = [Value.int .i64 (S.maps : Int), .int .i64 S.limit, .int .i64 S.patience, .slice (some ⟨g, 0, none⟩) S.tasks.length S.tasks.length, .int .i64 S.opn, .bool S.dead][j]? := fun j => h.blk.cell j
  have HH := Lib.hid (has_c b g vs S t w h)
  by_cases hin : 0 ≤ t ∧ t < (S.tasks.length : Int)
  · obtain ⟨i, rfl⟩ : ∃ i : Nat, t = (i : Int) := ⟨t.toNat, by omega⟩
    have hi : i < S.tasks.length := by omega
    obtain ⟨k, hk⟩ : ∃ k, S.tasks[i]? = some k := ⟨S.tasks[i], List.getElem?_eq_getElem _⟩
    rw [has_in hi] at HH
    have hb2 := hb k hin.1 (by rw [Int.toNat_natCast]; exact hk)
    rw [Int.toNat_natCast] at hb2
    obtain ⟨v, hv, c0, c1, c2⟩ := h.task hk
    have ia : ((i : Int)).toNat = i := by omega
    have ip : (0 : Int) ≤ (i : Int) := by omega
    have iz : (i : Int) < (S.tasks.length : Int) := by omega
    generalize S.tasks.length = nn at *
    clear hin hi hk hv h hb
    by_cases h1 : S.maps ≤ i
    · have n1 : decide ((S.maps : Int) ≤ (i : Int)) = true := decide_eq_true (by omega)
      have n1n : decide (S.maps ≤ i) = true := decide_eq_true h1
      clear hb2 h1
      go_enter Try.func12, Try.ntmps12
      go_wp2_with fail
      refine HH.out.mono ?_
      rintro _ _ ⟨rfl, rfl⟩
      go_wp2
      go_ret
      exact ⟨rfl, rfl⟩
    · have n1 : decide ((S.maps : Int) ≤ (i : Int)) = false := decide_eq_false (by omega)
      have n1n : decide (S.maps ≤ i) = false := decide_eq_false h1
      by_cases h2 : n < 1
      · have n2 := decide_eq_true h2
        clear hb2 h1 h2
        go_enter Try.func12, Try.ntmps12
        go_wp2_with fail
        refine HH.out.mono ?_
        rintro _ _ ⟨rfl, rfl⟩
        go_wp2
        go_ret
        exact ⟨rfl, rfl⟩
      · have n2 := decide_eq_false h2
        have h3 : k.winner ≠ n := by omega
        have n3 : (k.winner == n) = false := beq_eq_false_iff_ne.2 h3
        have n4 : (k.winner != n) = true := by simpa using h3
        clear hb2 h1 h2 h3
        go_enter Try.func12, Try.ntmps12
        go_wp2_with fail
        refine HH.out.mono ?_
        rintro _ _ ⟨rfl, rfl⟩
        go_wp2
        go_ret
        exact ⟨rfl, rfl⟩
  · rw [has_out hin] at HH
    clear hin hb h
    go_enter Try.func12, Try.ntmps12
    go_wp2_with fail
    refine HH.out.mono ?_
    rintro _ _ ⟨rfl, rfl⟩
    go_wp2
    go_ret
    exact ⟨rfl, rfl⟩
theorem lost_c (b g : Nat) (vs : List Value) (S : At.Bd) (hwin : ∀ t ∈ S.tasks, 0 ≤ t.winner ∧ t.winner ≤ t.tries.length) (t n : Int) (w : World) (h : BoardAt w b g vs S) (N : Nat) (hS : At.Use S N) (hN : N ≤ 5000000000001) :
    Calls Try.prog 12 #[.pointer (some ⟨b, 0, none⟩), .int .i64 t, .int .i64 n] w fun e w' => e = .returned (.bool (At.lost S t n).1) ∧ BoardTo w b g vs (At.lost S t n).2 w' := by
  by_cases hb : ∀ k, 0 ≤ t → S.tasks[t.toNat]? = some k → S.maps ≤ t.toNat ∨ n < 1 ∨ k.winner ≠ n
  · have hr : At.lost S t n = (false, S) := by
      unfold At.lost
      by_cases h0 : 0 ≤ t
      · rw [if_pos h0]
        cases hk : S.tasks[t.toNat]? with
        | none => rfl
        | some k =>
          dsimp only
          rw [if_neg (by have := hb k h0 hk; omega)]
      · rw [if_neg h0]
    rw [hr]
    refine (lost_no b g vs S t n hb w h).mono ?_
    rintro e w' ⟨rfl, rfl⟩
    exact ⟨rfl, vs, h, BdR.refl _ _ _ _⟩
  · have hb : ∃ k, 0 ≤ t ∧ S.tasks[t.toNat]? = some k ∧ ¬ (S.maps ≤ t.toNat ∨ n < 1 ∨ k.winner ≠ n) := Classical.byContradiction fun hc => hb fun k h1 h2 => Classical.byContradiction fun h3 => hc ⟨k, h1, h2, h3⟩
    obtain ⟨k, h0, hk, hc⟩ := hb
    obtain ⟨i, rfl⟩ : ∃ i : Nat, t = (i : Int) := ⟨t.toNat, by omega⟩
    rw [Int.toNat_natCast] at hk hc
    obtain ⟨j, hj⟩ : ∃ j : Nat, n = (j : Int) + 1 := ⟨(n - 1).toNat, by omega⟩
    have hkm := List.mem_of_getElem? hk
    have hwn := hwin k hkm
    obtain ⟨a, ha⟩ : ∃ a, k.tries[j]? = some a := ⟨k.tries[j]'(by omega), List.getElem?_eq_getElem _⟩
    have hr : At.lost S (i : Int) n = (true, At.lose S i k j a) := by
      unfold At.lost
      rw [if_pos (by omega), Int.toNat_natCast, hk]
      dsimp only
      rw [if_pos (by omega), show (n - 1).toNat = j by omega, ha]
    rw [hr]
    refine (lost_ok b g vs S hS.wf.len i k hk j a ha n hj (by omega) (by omega) (by have := hS.tr k hkm; omega) hS.op w h).mono ?_
    rintro e w' ⟨rfl, h1, h2⟩
    exact ⟨rfl, vs, h1, h2⟩
end Go.Proofs.Ytkcloaoaldklhaa
