/- attempts: Report, every call; Start, every call. (Under way.) -/
import Derived.Test.YtahpbcacfdkdjaaBoard9
namespace Go.Proofs.Ytahpbcacfdkdjaa
open Go.RowKit
set_option linter.unusedVariables false
set_option linter.unusedSimpArgs false
theorem has_in {n : Nat} {i : Nat} (hi : i < n) : (decide (0 ≤ (i : Int)) && decide ((i : Int) < (n : Int))) = true := by rw [decide_eq_true (by omega), decide_eq_true (by omega)]; rfl
theorem has_out {n : Nat} {t : Int} (h : ¬ (0 ≤ t ∧ t < (n : Int))) : (decide (0 ≤ t) && decide (t < (n : Int))) = false := by
  by_cases h0 : 0 ≤ t
  · rw [decide_eq_false (p := t < (n : Int)) (by omega), Bool.and_false]
  · rw [decide_eq_false h0, Bool.false_and]
set_option maxRecDepth 20000 in
set_option maxHeartbeats 4000000 in
/-- an end that is not taken: the attempt isn't one of the task's, or how is none -/
theorem report_out (b g : Nat) (vs : List Value) (S : At.Bd) (t n how : Int) (hb : ∀ k, 0 ≤ t → S.tasks[t.toNat]? = some k → n < 1 ∨ (k.tries.length : Int) < n ∨ how < 1 ∨ 3 < how) (w : World) (h : BoardAt w b g vs S) :
    Calls Try.prog 9 #[.pointer (some ⟨b, 0, none⟩), .int .i64 t, .int .i64 n, .int .i64 how] w fun e w' => e = .returned (.bool false) ∧ w = w' := by
  have z : ∀ j, w.cell? ⟨b, j, none⟩ = [Value.int .i64 (S.maps : Int), .int .i64 S.limit, .int .i64 S.patience, .slice (some ⟨g, 0, none⟩) S.tasks.length S.tasks.length, .int .i64 S.opn, .bool S.dead][j]? := fun j => h.blk.cell j
  have HH := Lib.hid (has_c b g vs S t w h)
  by_cases hin : 0 ≤ t ∧ t < (S.tasks.length : Int)
  · obtain ⟨i, rfl⟩ : ∃ i : Nat, t = (i : Int) := ⟨t.toNat, by omega⟩
    have hi : i < S.tasks.length := by omega
    obtain ⟨k, hk⟩ : ∃ k, S.tasks[i]? = some k := ⟨S.tasks[i], List.getElem?_eq_getElem _⟩
    rw [has_in hi] at HH
    have hb2 := hb k hin.1 (by rw [Int.toNat_natCast]; exact hk)
    obtain ⟨v, hv, c0, c1, c2⟩ := h.task hk
    obtain ⟨A, c, rfl⟩ := own_slice (h.own i v k hv hk)
    have ia : ((i : Int)).toNat = i := by omega
    have ip : (0 : Int) ≤ (i : Int) := by omega
    have iz : (i : Int) < (S.tasks.length : Int) := by omega
    generalize k.tries.length = kt at *
    generalize S.tasks.length = nn at *
    clear hin hi hk hv h hb
    by_cases h1 : n < 1
    · have n1 := decide_eq_true h1
      clear hb2 h1
      go_enter Try.func9, Try.ntmps9
      go_wp2_with fail
      refine HH.out.mono ?_
      rintro _ _ ⟨rfl, rfl⟩
      go_wp2
      go_ret
      exact ⟨rfl, rfl⟩
    · have n1 := decide_eq_false h1
      by_cases h2 : (kt : Int) < n
      · have n2 := decide_eq_true h2
        clear hb2 h1 h2
        go_enter Try.func9, Try.ntmps9
        go_wp2_with fail
        refine HH.out.mono ?_
        rintro _ _ ⟨rfl, rfl⟩
        go_wp2
        go_ret
        exact ⟨rfl, rfl⟩
      · have n2 := decide_eq_false h2
        by_cases h3 : how < 1
        · have n3 := decide_eq_true h3
          clear hb2 h1 h2 h3
          go_enter Try.func9, Try.ntmps9
          go_wp2_with fail
          refine HH.out.mono ?_
          rintro _ _ ⟨rfl, rfl⟩
          go_wp2
          go_ret
          exact ⟨rfl, rfl⟩
        · have n3 := decide_eq_false h3
          have h4 : 3 < how := by omega
          have n4 := decide_eq_true h4
          clear hb2 h1 h2 h3 h4
          go_enter Try.func9, Try.ntmps9
          go_wp2_with fail
          refine HH.out.mono ?_
          rintro _ _ ⟨rfl, rfl⟩
          go_wp2
          go_ret
          exact ⟨rfl, rfl⟩
  · rw [has_out hin] at HH
    clear hin hb h
    go_enter Try.func9, Try.ntmps9
    go_wp2_with fail
    refine HH.out.mono ?_
    rintro _ _ ⟨rfl, rfl⟩
    go_wp2
    go_ret
    exact ⟨rfl, rfl⟩
set_option maxRecDepth 20000 in
set_option maxHeartbeats 4000000 in
/-- an end that is not taken: the attempt has ended -/
theorem report_over (b g : Nat) (vs : List Value) (S : At.Bd) (i : Nat) (k : At.Task) (hk : S.tasks[i]? = some k) (j : Nat) (a : At.Try) (ha : k.tries[j]? = some a) (hst : a.state ≠ 0) (n : Int) (hn : n = (j : Int) + 1) (hln : k.tries.length ≤ 5000000000001) (how : Int) (hh : 1 ≤ how ∧ how ≤ 3) (w : World) (h : BoardAt w b g vs S) :
    Calls Try.prog 9 #[.pointer (some ⟨b, 0, none⟩), .int .i64 (i : Int), .int .i64 n, .int .i64 how] w fun e w' => e = .returned (.bool false) ∧ w = w' := by
  have z : ∀ j, w.cell? ⟨b, j, none⟩ = [Value.int .i64 (S.maps : Int), .int .i64 S.limit, .int .i64 S.patience, .slice (some ⟨g, 0, none⟩) S.tasks.length S.tasks.length, .int .i64 S.opn, .bool S.dead][j]? := fun j => h.blk.cell j
  have HH := Lib.hid (has_c b g vs S (i : Int) w h)
  have hi := (List.getElem?_eq_some_iff.1 hk).1
  have hjl := (List.getElem?_eq_some_iff.1 ha).1
  rw [has_in hi] at HH
  obtain ⟨v, hv, c0, c1, c2⟩ := h.task hk
  obtain ⟨r, c, hvr, _, d0, d1, d2, d3, hset⟩ := h.setTry hk ha
  obtain rfl := Option.some.inj (hv.symm.trans hvr)
  have ia : ((i : Int)).toNat = i := by omega
  have ip : (0 : Int) ≤ (i : Int) := by omega
  have iz : (i : Int) < (S.tasks.length : Int) := by omega
  have ja : ((j : Int)).toNat = j := by omega
  have jp : (0 : Int) ≤ (j : Int) := by omega
  have jz : (j : Int) < (k.tries.length : Int) := by omega
  have n1 : decide (n < 1) = false := decide_eq_false (by omega)
  have n2 : decide ((k.tries.length : Int) < n) = false := decide_eq_false (by omega)
  have n3 : wrap64 (n - 1) = (j : Int) := by unfold wrap64; omega
  have n4 : IntKind.i64.wrap (n - 1) = (j : Int) := by rw [IntKind.wrap_i64]; omega
  have n5 : decide (how < 1) = false := decide_eq_false (by omega)
  have n6 : decide (3 < how) = false := decide_eq_false (by omega)
  have n7 : (a.state != 0) = true := by simpa using hst
  have n8 : (a.state == 0) = false := beq_eq_false_iff_ne.2 hst
  generalize k.tries.length = kt at *
  generalize S.tasks.length = nn at *
  generalize a.state = sa at *
  clear hi hjl hk ha hst hv hvr hset hn hln hh h
  go_enter Try.func9, Try.ntmps9
  go_wp2_with fail
  refine HH.out.mono ?_
  rintro _ _ ⟨rfl, rfl⟩
  go_wp2
  go_ret
  exact ⟨rfl, rfl⟩
/-- the bounds that a board in use keeps -/
structure At.Use (S : At.Bd) (N : Nat) : Prop where
  wf : S.Wf
  tr : ∀ k ∈ S.tasks, k.tries.length ≤ N
  fu : ∀ k ∈ S.tasks, 0 ≤ k.full ∧ k.full ≤ k.tries.length
  op : -100000 ≤ S.opn ∧ S.opn ≤ 100000
/-- the board has become another -/
def BoardTo (w : World) (b g : Nat) (vs : List Value) (S' : At.Bd) (w' : World) : Prop := ∃ vs', BoardAt w' b g vs' S' ∧ BdR w b g vs w' vs'
theorem report_c (b g : Nat) (vs : List Value) (S : At.Bd) (t n how : Int) (w : World) (h : BoardAt w b g vs S) (N : Nat) (hS : At.Use S N) (hN : N ≤ 5000000000001) :
    Calls Try.prog 9 #[.pointer (some ⟨b, 0, none⟩), .int .i64 t, .int .i64 n, .int .i64 how] w fun e w' => e = .returned (.bool (At.report S t n how).1) ∧ BoardTo w b g vs (At.report S t n how).2 w' := by
  have hno : ∀ e w', (e = Ending.returned (.bool false) ∧ w = w') → At.report S t n how = (false, S) → e = .returned (.bool (At.report S t n how).1) ∧ BoardTo w b g vs (At.report S t n how).2 w' := by
    rintro e w' ⟨rfl, rfl⟩ hr
    rw [hr]
    exact ⟨rfl, vs, h, BdR.refl _ _ _ _⟩
  by_cases hb : ∀ k, 0 ≤ t → S.tasks[t.toNat]? = some k → n < 1 ∨ (k.tries.length : Int) < n ∨ how < 1 ∨ 3 < how
  · refine (report_out b g vs S t n how hb w h).mono fun e w' he => hno e w' he ?_
    unfold At.report
    by_cases h0 : 0 ≤ t
    · rw [if_pos h0]
      cases hk : S.tasks[t.toNat]? with
      | none => rfl
      | some k =>
        dsimp only
        split
        · rename_i hc
          have : k.tries[(n - 1).toNat]? = none := List.getElem?_eq_none (by have := hb k h0 hk; omega)
          rw [this]
        · rfl
    · rw [if_neg h0]
  · have hb : ∃ k, 0 ≤ t ∧ S.tasks[t.toNat]? = some k ∧ ¬ (n < 1 ∨ (k.tries.length : Int) < n ∨ how < 1 ∨ 3 < how) := Classical.byContradiction fun hc => hb fun k h1 h2 => Classical.byContradiction fun h3 => hc ⟨k, h1, h2, h3⟩
    obtain ⟨k, h0, hk, hc⟩ := hb
    obtain ⟨i, rfl⟩ : ∃ i : Nat, t = (i : Int) := ⟨t.toNat, by omega⟩
    rw [Int.toNat_natCast] at hk
    obtain ⟨j, hj⟩ : ∃ j : Nat, n = (j : Int) + 1 := ⟨(n - 1).toNat, by omega⟩
    obtain ⟨a, ha⟩ : ∃ a, k.tries[j]? = some a := ⟨k.tries[j]'(by omega), List.getElem?_eq_getElem _⟩
    have hkm := List.mem_of_getElem? hk
    have hkl := hS.tr k hkm
    have hfu := hS.fu k hkm
    have hr : At.report S (i : Int) n how = if a.state = 0 then (true, At.rep S i k j a n how) else (false, S) := by
      unfold At.report
      rw [if_pos (by omega), Int.toNat_natCast, hk]
      dsimp only
      rw [if_pos (by omega), show (n - 1).toNat = j by omega, ha]
    by_cases hst : a.state = 0
    · refine (report_ok b g vs S hS.wf.len i k hk j a ha hst n hj how (by omega) (by omega) (by omega) hS.op w h).mono ?_
      rintro e w' ⟨rfl, h1, h2⟩
      rw [hr, if_pos hst]
      exact ⟨rfl, vs, h1, h2⟩
    · refine (report_over b g vs S i k hk j a ha hst n hj (by omega) how (by omega) w h).mono fun e w' he => hno e w' he ?_
      rw [hr, if_neg hst]
set_option maxRecDepth 20000 in
set_option maxHeartbeats 4000000 in
/-- no attempt may begin -/
theorem start_no (b g : Nat) (vs : List Value) (S : At.Bd) (hSl : S.tasks.length ≤ 100000) (t node now : Int) (hb : ∀ k, 0 ≤ t → S.tasks[t.toNat]? = some k → S.dead = true ∨ At.may S t.toNat k = false) (w : World) (h : BoardAt w b g vs S) :
    Calls Try.prog 8 #[.pointer (some ⟨b, 0, none⟩), .int .i64 t, .int .i64 node, .int .i64 now] w fun e w' => e = .returned (.int .i64 0) ∧ w = w' := by
  have z : ∀ j, w.cell? ⟨b, j, none⟩ = [Value.int .i64 (S.maps : Int), .int .i64 S.limit, .int .i64 S.patience, .slice (some ⟨g, 0, none⟩) S.tasks.length S.tasks.length, .int .i64 S.opn, .bool S.dead][j]? := fun j => h.blk.cell j
  have HH := Lib.hid (has_c b g vs S t w h)
  by_cases hin : 0 ≤ t ∧ t < (S.tasks.length : Int)
  · obtain ⟨i, rfl⟩ : ∃ i : Nat, t = (i : Int) := ⟨t.toNat, by omega⟩
    have hi : i < S.tasks.length := by omega
    obtain ⟨k, hk⟩ : ∃ k, S.tasks[i]? = some k := ⟨S.tasks[i], List.getElem?_eq_getElem _⟩
    rw [has_in hi] at HH
    have hb2 := hb k hin.1 (by rw [Int.toNat_natCast]; exact hk)
    rw [Int.toNat_natCast] at hb2
    have HM := Lib.hid (may_c b g vs S i k hk w h hSl)
    generalize S.tasks.length = nn at *
    cases hd : S.dead with
    | true =>
      rw [hd] at z
      clear hin hi hk h hb hb2 hd
      go_enter Try.func8, Try.ntmps8
      go_wp2_with fail
      refine HH.out.mono ?_
      rintro _ _ ⟨rfl, rfl⟩
      go_wp2
      go_ret
      exact ⟨rfl, rfl⟩
    | false =>
      rw [hd] at z
      rw [hb2.resolve_left (by rw [hd]; simp)] at HM
      clear hin hi hk h hb hb2 hd
      go_enter Try.func8, Try.ntmps8
      go_wp2_with fail
      refine HH.out.mono ?_
      rintro _ _ ⟨rfl, rfl⟩
      go_wp2_with fail
      refine HM.out.mono ?_
      rintro _ _ ⟨rfl, rfl⟩
      go_wp2
      go_ret
      exact ⟨rfl, rfl⟩
  · rw [has_out hin] at HH
    clear hin hb h
    go_enter Try.func8, Try.ntmps8
    go_wp2_with fail
    refine HH.out.mono ?_
    rintro _ _ ⟨rfl, rfl⟩
    go_wp2
    go_ret
    exact ⟨rfl, rfl⟩
theorem start_c (b g : Nat) (vs : List Value) (S : At.Bd) (t node now : Int) (w : World) (h : BoardAt w b g vs S) (N : Nat) (hS : At.Use S N) (hN : N ≤ 5000000000000) :
    Calls Try.prog 8 #[.pointer (some ⟨b, 0, none⟩), .int .i64 t, .int .i64 node, .int .i64 now] w fun e w' => e = .returned (.int .i64 (At.start S t node now).1) ∧ BoardTo w b g vs (At.start S t node now).2 w' := by
  by_cases hb : ∀ k, 0 ≤ t → S.tasks[t.toNat]? = some k → S.dead = true ∨ At.may S t.toNat k = false
  · have hr : At.start S t node now = (0, S) := by
      unfold At.start
      by_cases h0 : 0 ≤ t
      · rw [if_pos h0]
        cases hk : S.tasks[t.toNat]? with
        | none => rfl
        | some k =>
          dsimp only
          rw [if_neg]
          rintro ⟨h1, h2⟩
          rcases hb k h0 hk with h3 | h3
          · rw [h1] at h3; cases h3
          · rw [h2] at h3; cases h3
      · rw [if_neg h0]
    rw [hr]
    refine (start_no b g vs S hS.wf.len t node now hb w h).mono ?_
    rintro e w' ⟨rfl, rfl⟩
    exact ⟨rfl, vs, h, BdR.refl _ _ _ _⟩
  · have hb : ∃ k, 0 ≤ t ∧ S.tasks[t.toNat]? = some k ∧ ¬ (S.dead = true ∨ At.may S t.toNat k = false) := Classical.byContradiction fun hc => hb fun k h1 h2 => Classical.byContradiction fun h3 => hc ⟨k, h1, h2, h3⟩
    obtain ⟨k, h0, hk, hc⟩ := hb
    obtain ⟨i, rfl⟩ : ∃ i : Nat, t = (i : Int) := ⟨t.toNat, by omega⟩
    rw [Int.toNat_natCast] at hk hc
    have hd : S.dead = false := by cases e : S.dead with
      | false => rfl
      | true => exact absurd (.inl e) hc
    have hm : At.may S i k = true := by cases e : At.may S i k with
      | true => rfl
      | false => exact absurd (.inr e) hc
    have hr : At.start S (i : Int) node now = ((k.tries.length : Int) + 1, { S with tasks := S.tasks.set i { k with tries := k.tries ++ [⟨node, At.clamp now 0 1099511627776, 0⟩] } }) := by
      unfold At.start
      rw [if_pos (by omega), Int.toNat_natCast, hk]
      dsimp only
      rw [if_pos ⟨hd, hm⟩]
    rw [hr]
    refine (start_ok b g vs S hS.wf i k hk hd hm (by have := hS.tr k (List.mem_of_getElem? hk); omega) node now w h).mono ?_
    rintro e w' ⟨vs', rfl, h1, h2⟩
    exact ⟨rfl, vs', h1, h2⟩
end Go.Proofs.Ytahpbcacfdkdjaa
