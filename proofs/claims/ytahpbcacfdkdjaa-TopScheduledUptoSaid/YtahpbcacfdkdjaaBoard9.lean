/- attempts: Report. (Under way.) -/
import Derived.Test.YtahpbcacfdkdjaaBoard7
import Derived.Deep.CutBlock
namespace At
/-- an attempt's end, where it is taken -/
def rep (S : Bd) (i : Nat) (k : Task) (j : Nat) (a : Try) (n how : Int) : Bd :=
  if how = 3 then { S with tasks := S.tasks.set i { k with tries := k.tries.set j { a with state := how }, full := k.full + 1 }, dead := S.dead || decide (S.limit ≤ k.full + 1) }
  else if how = 1 ∧ k.winner = 0 then { S with tasks := S.tasks.set i { k with tries := k.tries.set j { a with state := how }, winner := n }, opn := if i < S.maps then S.opn - 1 else S.opn }
  else { S with tasks := S.tasks.set i { k with tries := k.tries.set j { a with state := how } } }
def report (S : Bd) (t n how : Int) : Bool × Bd := if 0 ≤ t then (match S.tasks[t.toNat]? with
  | some k => if 1 ≤ n ∧ 1 ≤ how ∧ how ≤ 3 then (match k.tries[(n - 1).toNat]? with
    | some a => if a.state = 0 then (true, rep S t.toNat k (n - 1).toNat a n how) else (false, S)
    | none => (false, S)) else (false, S)
  | none => (false, S)) else (false, S)
end At
namespace Go.Proofs.Ytahpbcacfdkdjaa
open Go.RowKit
set_option linter.unusedVariables false
set_option linter.unusedSimpArgs false
theorem BoardAt.drewN {w : World} {b g : Nat} {vs : List Value} {S : At.Bd} (h : BoardAt w b g vs S) (n : Nat) : BoardAt (w.drewN n) b g vs S :=
  ⟨h.len, h.blk.drewN n, h.tsk.drewN n, fun i v t hv ht => own_drewN (h.own i v t hv ht) n, h.ne, h.off, h.apart⟩
theorem BdR.drewN {w w' : World} {b g : Nat} {vs vs' : List Value} (h : BdR w b g vs w' vs') (n : Nat) : BdR w b g vs (w'.drewN n) vs' := ⟨h.lies, h.fr.drewN n⟩
set_option maxRecDepth 20000 in
set_option maxHeartbeats 4000000 in
theorem report_ok (b g : Nat) (vs : List Value) (S : At.Bd) (hSl : S.tasks.length ≤ 100000) (i : Nat) (k : At.Task) (hk : S.tasks[i]? = some k) (j : Nat) (a : At.Try) (ha : k.tries[j]? = some a) (hst : a.state = 0) (n : Int) (hn : n = (j : Int) + 1) (how : Int) (hh : how = 1 ∨ how = 2 ∨ how = 3) (hln : k.tries.length ≤ 5000000000001)
    (hfu : 0 ≤ k.full ∧ k.full ≤ 5000000000001) (hop : -100000 ≤ S.opn ∧ S.opn ≤ 100000) (w : World) (h : BoardAt w b g vs S) :
    Calls Try.prog 9 #[.pointer (some ⟨b, 0, none⟩), .int .i64 (i : Int), .int .i64 n, .int .i64 how] w fun e w' => e = .returned (.bool true) ∧ BoardAt w' b g vs (At.rep S i k j a n how) ∧ BdR w b g vs w' vs := by
  have z : ∀ j, w.cell? ⟨b, j, none⟩ = [Value.int .i64 (S.maps : Int), .int .i64 S.limit, .int .i64 S.patience, .slice (some ⟨g, 0, none⟩) S.tasks.length S.tasks.length, .int .i64 S.opn, .bool S.dead][j]? := fun j => h.blk.cell j
  have hi := (List.getElem?_eq_some_iff.1 hk).1
  have hjl := (List.getElem?_eq_some_iff.1 ha).1
  have HH := Lib.hid (has_c b g vs S (i : Int) w h)
  rw [show (decide (0 ≤ (i : Int)) && decide ((i : Int) < (S.tasks.length : Int))) = true by rw [decide_eq_true (by omega), decide_eq_true (by omega)]; rfl] at HH
  obtain ⟨v, hv, c0, c1, c2⟩ := h.task hk
  obtain ⟨r, c, hvr, _, d0, d1, d2, d3, hset⟩ := h.setTry hk ha
  obtain rfl := Option.some.inj (hv.symm.trans hvr)
  rw [hst] at d2
  obtain ⟨hB1, hR1⟩ := hset how
  have hk1 : (S.tasks.set i { k with tries := k.tries.set j { a with state := how } })[i]? = some { k with tries := k.tries.set j { a with state := how } } := List.getElem?_set_self hi
  have HB1 := Lib.hid hB1
  have HR1 := Lib.hid hR1
  have HK1 := Lib.hid hk1
  have HIL := Lib.hid hi
  have ia : ((i : Int)).toNat = i := by omega
  have ip : (0 : Int) ≤ (i : Int) := by omega
  have iz : (i : Int) < (S.tasks.length : Int) := by omega
  have ja : ((j : Int)).toNat = j := by omega
  have jp : (0 : Int) ≤ (j : Int) := by omega
  have jz : (j : Int) < (k.tries.length : Int) := by omega
  have n1 : decide (n < 1) = false := decide_eq_false (by omega)
  have n2 : decide ((k.tries.length : Int) < n) = false := decide_eq_false (by omega)
  have n3 : wrap64 (n - 1) = (j : Int) := by unfold wrap64; omega
  have n4 : IntKind.i64.wrap (n - 1) = (j : Int) := by rw [IntKind.wrap_i64]; omega
  have HFU := Lib.hid hfu
  have HOP := Lib.hid hop
  clear hB1 hR1 hset hk1 h hi hjl hk ha hst hv hvr hfu hop hn hln d0 d1
  generalize hS1 : ({ S with tasks := S.tasks.set i { k with tries := k.tries.set j { a with state := how } } } : At.Bd) = S1 at HB1
  have HS1 := Lib.hid hS1
  clear hS1
  generalize hnn : S.tasks.length = nn at *
  have HNN := Lib.hid hnn
  clear hnn
  generalize hkt : k.tries.length = kt at *
  clear hkt
  go_enter Try.func9, Try.ntmps9
  rcases hh with rfl | rfl | rfl
  · go_wp2_with fail
    refine HH.out.mono ?_
    rintro _ _ ⟨rfl, rfl⟩
    go_upto_block 0 with (fail)
    have z1 : ∀ q, (w.setCell ⟨r, j * 3 + 2, none⟩ (.int .i64 1)).cell? ⟨b, q, none⟩ = [Value.int .i64 (S.maps : Int), .int .i64 S.limit, .int .i64 S.patience, .slice (some ⟨g, 0, none⟩) nn nn, .int .i64 S.opn, .bool S.dead][q]? := fun q => by
      have := HB1.out.blk.cell q
      rw [← HS1.out] at this
      simpa [HNN.out] using this
    have zf : ∀ q, (w.setCell ⟨r, j * 3 + 2, none⟩ (.int .i64 1)).frozen? ⟨b, q, none⟩ = false := fun q => HB1.out.blk.frozen q
    have zg : ∀ q, (w.setCell ⟨r, j * 3 + 2, none⟩ (.int .i64 1)).frozen? ⟨g, q, none⟩ = false := fun q => HB1.out.tsk.frozen q
    obtain ⟨_, _, _, y1, y2⟩ := HB1.out.task (i := i) (by rw [← HS1.out]; exact HK1.out)
    dsimp only at y1 y2
    have hne : b ≠ g := HB1.out.ne
    have hne2 : g ≠ b := fun e => HB1.out.ne e.symm
    clear z c0 c1 c2 d2 d3 HH
    generalize w.setCell ⟨r, j * 3 + 2, none⟩ (.int .i64 1) = w1 at HB1 HR1 z1 zf zg y1 y2 ⊢
    by_cases hw : k.winner = 0
    · have hw1 : (k.winner == 0) = true := by rw [hw]; rfl
      have HW := Lib.hid hw
      have hb2 := HB1.out.setTask (i := i) (t := { k with tries := k.tries.set j { a with state := 1 } }) (t' := { k with tries := k.tries.set j { a with state := 1 }, winner := n }) (by rw [← HS1.out]; exact HK1.out) rfl 1 (by decide) (.int .i64 n) (fun v => rfl)
      have HB2 := Lib.hid hb2
      clear hw hb2
      by_cases hm : i < S.maps
      · have m1 : decide ((i : Int) < (S.maps : Int)) = true := decide_eq_true (by omega)
        have m1n : decide (i < S.maps) = true := decide_eq_true hm
        have HM := Lib.hid hm
        have o1 : wrap64 (S.opn - 1) = S.opn - 1 := by have := HOP.out; unfold wrap64; omega
        have o2 : IntKind.i64.wrap (S.opn - 1) = S.opn - 1 := by have := HOP.out; rw [IntKind.wrap_i64]; omega
        clear hm
        go_wp2
        have hb3 := HB2.out.1.setOpen (S.opn - 1)
        refine bodyPost_ret (results_tmp (by rfl) _ _ _) (by rfl) ⟨by rfl, ?_, (HR1.out.trans HB2.out.2).trans hb3.2⟩
        have := hb3.1
        rw [← HS1.out] at this
        unfold At.rep
        rw [if_neg (by decide), if_pos ⟨rfl, HW.out⟩, if_pos HM.out]
        simpa using this
      · have m1 : decide ((i : Int) < (S.maps : Int)) = false := decide_eq_false (by omega)
        have m1n : decide (i < S.maps) = false := decide_eq_false hm
        have HM := Lib.hid hm
        clear hm
        go_wp2
        refine bodyPost_ret (results_tmp (by rfl) _ _ _) (by rfl) ⟨by rfl, ?_, HR1.out.trans HB2.out.2⟩
        have := HB2.out.1
        rw [← HS1.out] at this
        unfold At.rep
        rw [if_neg (by decide), if_pos ⟨rfl, HW.out⟩, if_neg HM.out]
        simpa using this
    · have hw1 : (k.winner == 0) = false := beq_eq_false_iff_ne.2 hw
      have HW := Lib.hid hw
      clear hw
      go_wp2
      refine bodyPost_ret (results_tmp (by rfl) _ _ _) (by rfl) ⟨by rfl, ?_, HR1.out⟩
      have := HB1.out
      rw [← HS1.out] at this
      unfold At.rep
      rw [if_neg (by decide), if_neg (fun e => HW.out e.2)]
      exact this
  · go_wp2_with fail
    refine HH.out.mono ?_
    rintro _ _ ⟨rfl, rfl⟩
    go_upto_block 0 with (fail)
    have z1 : ∀ q, (w.setCell ⟨r, j * 3 + 2, none⟩ (.int .i64 2)).cell? ⟨b, q, none⟩ = [Value.int .i64 (S.maps : Int), .int .i64 S.limit, .int .i64 S.patience, .slice (some ⟨g, 0, none⟩) nn nn, .int .i64 S.opn, .bool S.dead][q]? := fun q => by
      have := HB1.out.blk.cell q
      rw [← HS1.out] at this
      simpa [HNN.out] using this
    have zf : ∀ q, (w.setCell ⟨r, j * 3 + 2, none⟩ (.int .i64 2)).frozen? ⟨b, q, none⟩ = false := fun q => HB1.out.blk.frozen q
    have zg : ∀ q, (w.setCell ⟨r, j * 3 + 2, none⟩ (.int .i64 2)).frozen? ⟨g, q, none⟩ = false := fun q => HB1.out.tsk.frozen q
    obtain ⟨_, _, _, y1, y2⟩ := HB1.out.task (i := i) (by rw [← HS1.out]; exact HK1.out)
    dsimp only at y1 y2
    have hne : b ≠ g := HB1.out.ne
    have hne2 : g ≠ b := fun e => HB1.out.ne e.symm
    clear z c0 c1 c2 d2 d3 HH
    generalize w.setCell ⟨r, j * 3 + 2, none⟩ (.int .i64 2) = w1 at HB1 HR1 z1 zf zg y1 y2 ⊢
    go_wp2
    refine bodyPost_ret (results_tmp (by rfl) _ _ _) (by rfl) ⟨by rfl, ?_, HR1.out⟩
    have := HB1.out
    rw [← HS1.out] at this
    unfold At.rep
    rw [if_neg (by decide), if_neg (fun e => by cases e.1)]
    exact this
  · go_wp2_with fail
    refine HH.out.mono ?_
    rintro _ _ ⟨rfl, rfl⟩
    go_upto_block 0 with (fail)
    have z1 : ∀ q, (w.setCell ⟨r, j * 3 + 2, none⟩ (.int .i64 3)).cell? ⟨b, q, none⟩ = [Value.int .i64 (S.maps : Int), .int .i64 S.limit, .int .i64 S.patience, .slice (some ⟨g, 0, none⟩) nn nn, .int .i64 S.opn, .bool S.dead][q]? := fun q => by
      have := HB1.out.blk.cell q
      rw [← HS1.out] at this
      simpa [HNN.out] using this
    have zf : ∀ q, (w.setCell ⟨r, j * 3 + 2, none⟩ (.int .i64 3)).frozen? ⟨b, q, none⟩ = false := fun q => HB1.out.blk.frozen q
    have zg : ∀ q, (w.setCell ⟨r, j * 3 + 2, none⟩ (.int .i64 3)).frozen? ⟨g, q, none⟩ = false := fun q => HB1.out.tsk.frozen q
    obtain ⟨_, _, _, y1, y2⟩ := HB1.out.task (i := i) (by rw [← HS1.out]; exact HK1.out)
    dsimp only at y1 y2
    have hne : b ≠ g := HB1.out.ne
    have hne2 : g ≠ b := fun e => HB1.out.ne e.symm
    clear z c0 c1 c2 d2 d3 HH
    generalize w.setCell ⟨r, j * 3 + 2, none⟩ (.int .i64 3) = w1 at HB1 HR1 z1 zf zg y1 y2 ⊢
    have o1 : wrap64 (k.full + 1) = k.full + 1 := by have := HFU.out; unfold wrap64; omega
    have o2 : IntKind.i64.wrap (k.full + 1) = k.full + 1 := by have := HFU.out; rw [IntKind.wrap_i64]; omega
    have hb2 := HB1.out.setTask (i := i) (t := { k with tries := k.tries.set j { a with state := 3 } }) (t' := { k with tries := k.tries.set j { a with state := 3 }, full := k.full + 1 }) (by rw [← HS1.out]; exact HK1.out) rfl 2 (by decide) (.int .i64 (k.full + 1)) (fun v => rfl)
    have HB2 := Lib.hid hb2
    clear hb2
    go_upto_region 10 with (fail)
    have z2 : ∀ q, (w1.setCell ⟨g, i * 3 + 2, none⟩ (.int .i64 (k.full + 1))).cell? ⟨b, q, none⟩ = [Value.int .i64 (S.maps : Int), .int .i64 S.limit, .int .i64 S.patience, .slice (some ⟨g, 0, none⟩) nn nn, .int .i64 S.opn, .bool S.dead][q]? := fun q => by
      have := HB2.out.1.blk.cell q
      rw [← HS1.out] at this
      simpa [HNN.out] using this
    have zf2 : ∀ q, (w1.setCell ⟨g, i * 3 + 2, none⟩ (.int .i64 (k.full + 1))).frozen? ⟨b, q, none⟩ = false := fun q => HB2.out.1.blk.frozen q
    have y3 : (w1.setCell ⟨g, i * 3 + 2, none⟩ (.int .i64 (k.full + 1))).cell? ⟨g, i * 3 + 2, none⟩ = some (.int .i64 (k.full + 1)) := by
      obtain ⟨_, _, _, _, y⟩ := HB2.out.1.task (i := i) (by rw [← HS1.out]; show ((S.tasks.set i _).set i _)[i]? = _; exact List.getElem?_set_self (by rw [List.length_set, HNN.out]; exact HIL.out))
      exact y
    clear z1 zf zg y1 y2 HFU o1 o2
    have hd3 := HB2.out.1.setDead (S.dead || decide (S.limit ≤ k.full + 1))
    have HD3 := Lib.hid hd3
    clear hd3
    have HR2 := Lib.hid (HR1.out.trans HB2.out.2)
    have HZ : Hid (At.rep S i k j a n 3 = { S1 with tasks := S1.tasks.set i { k with tries := k.tries.set j { a with state := 3 }, full := k.full + 1 }, dead := S.dead || decide (S.limit ≤ k.full + 1) }) := Lib.hid (by
      rw [← HS1.out]
      unfold At.rep
      rw [if_pos rfl]
      simp)
    clear HB2 HB1 HR1 HK1
    generalize w1.setCell ⟨g, i * 3 + 2, none⟩ (.int .i64 (k.full + 1)) = w2 at HD3 HR2 z2 zf2 y3 ⊢
    cases hdd : S.dead with
    | true =>
      rw [hdd, Bool.true_or] at HD3 HZ
      rw [hdd] at z2
      clear hdd
      go_region
      all_goals
        go_wp2
        exact bodyPost_ret (results_tmp (by rfl) _ _ _) (by rfl) ⟨by rfl, by rw [HZ.out]; exact HD3.out.1.drewN 1, HR2.out.trans (HD3.out.2.drewN 1)⟩
    | false =>
      rw [hdd, Bool.false_or] at HD3 HZ
      rw [hdd] at z2
      clear hdd
      by_cases hl : S.limit ≤ k.full + 1
      · rw [decide_eq_true hl] at HD3 HZ
        have l1 := decide_eq_true hl
        clear hl
        go_region
        all_goals
          go_wp2
          exact bodyPost_ret (results_tmp (by rfl) _ _ _) (by rfl) ⟨by rfl, by rw [HZ.out]; exact HD3.out.1.drewN 1, HR2.out.trans (HD3.out.2.drewN 1)⟩
      · rw [decide_eq_false hl] at HD3 HZ
        have l1 := decide_eq_false hl
        clear hl
        go_region
        all_goals
          go_wp2
          exact bodyPost_ret (results_tmp (by rfl) _ _ _) (by rfl) ⟨by rfl, by rw [HZ.out]; exact HD3.out.1.drewN 1, HR2.out.trans (HD3.out.2.drewN 1)⟩
end Go.Proofs.Ytahpbcacfdkdjaa
