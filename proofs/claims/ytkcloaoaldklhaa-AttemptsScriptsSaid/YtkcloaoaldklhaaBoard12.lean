/- attempts: Gone. (Under way.) -/
import Derived.Test.YtkcloaoaldklhaaBoard11
namespace At
def goA (node : Int) (a : Try) : Try := if a.node = node ∧ a.state = 0 then { a with state := 4 } else a
def goK (node : Int) (k : Task) : Task := { k with tries := k.tries.map (goA node) }
def gone (S : Bd) (node : Int) : Bd := { S with tasks := S.tasks.map (goK node) }
/-- the first i tasks are done -/
def goneI (S : Bd) (node : Int) (i : Nat) : Bd := { S with tasks := (S.tasks.take i).map (goK node) ++ S.tasks.drop i }
/-- and of task i the first j tries -/
def goneK (node : Int) (k : Task) (j : Nat) : Task := { k with tries := (k.tries.take j).map (goA node) ++ k.tries.drop j }
theorem goneI_zero (S : Bd) (node : Int) : goneI S node 0 = S := by unfold goneI; simp
theorem goneI_all (S : Bd) (node : Int) (i : Nat) (h : S.tasks.length ≤ i) : goneI S node i = gone S node := by
  unfold goneI gone
  rw [List.take_of_length_le h, List.drop_eq_nil_of_le h, List.append_nil]
theorem goneI_len (S : Bd) (node : Int) (i : Nat) : (goneI S node i).tasks.length = S.tasks.length := by unfold goneI; simp; omega
theorem goneI_get (S : Bd) (node : Int) (i : Nat) : (goneI S node i).tasks[i]? = S.tasks[i]? := by
  unfold goneI
  by_cases h : i < S.tasks.length
  · rw [List.getElem?_append_right (by simp; omega)]
    simp [List.getElem?_drop, Nat.min_eq_left (Nat.le_of_lt h)]
  · rw [List.getElem?_eq_none (by simp; omega), List.getElem?_eq_none (by omega)]
theorem goneI_succ (S : Bd) (node : Int) (i : Nat) (k : Task) (hk : S.tasks[i]? = some k) : goneI S node (i + 1) = { goneI S node i with tasks := (goneI S node i).tasks.set i (goK node k) } := by
  have hi := (List.getElem?_eq_some_iff.1 hk).1
  unfold goneI
  congr 1
  rw [List.set_append_right _ _ (by simp; omega), List.take_add_one, hk, List.map_append, List.append_assoc]
  congr 1
  rw [List.length_map, List.length_take, Nat.min_eq_left (Nat.le_of_lt hi), Nat.sub_self, List.drop_eq_getElem_cons hi, List.set_cons_zero]
  rfl
theorem goneK_zero (node : Int) (k : Task) : goneK node k 0 = k := by unfold goneK; simp
theorem goneK_all (node : Int) (k : Task) (j : Nat) (h : k.tries.length ≤ j) : goneK node k j = goK node k := by
  unfold goneK goK
  rw [List.take_of_length_le h, List.drop_eq_nil_of_le h, List.append_nil]
theorem goneK_len (node : Int) (k : Task) (j : Nat) : (goneK node k j).tries.length = k.tries.length := by unfold goneK; simp; omega
theorem goneK_get (node : Int) (k : Task) (j : Nat) : (goneK node k j).tries[j]? = k.tries[j]? := by
  unfold goneK
  by_cases h : j < k.tries.length
  · rw [List.getElem?_append_right (by simp; omega)]
    simp [List.getElem?_drop, Nat.min_eq_left (Nat.le_of_lt h)]
  · rw [List.getElem?_eq_none (by simp; omega), List.getElem?_eq_none (by omega)]
theorem goneK_succ (node : Int) (k : Task) (j : Nat) (a : Try) (ha : k.tries[j]? = some a) : goneK node k (j + 1) = { goneK node k j with tries := (goneK node k j).tries.set j (goA node a) } := by
  have hi := (List.getElem?_eq_some_iff.1 ha).1
  unfold goneK
  congr 1
  rw [List.set_append_right _ _ (by simp; omega), List.take_add_one, ha, List.map_append, List.append_assoc]
  congr 1
  rw [List.length_map, List.length_take, Nat.min_eq_left (Nat.le_of_lt hi), Nat.sub_self, List.drop_eq_getElem_cons hi, List.set_cons_zero]
  rfl
theorem goneK_skip (node : Int) (k : Task) (j : Nat) (a : Try) (ha : k.tries[j]? = some a) (hs : goA node a = a) : goneK node k (j + 1) = goneK node k j := by
  rw [goneK_succ node k j a ha, hs]
  have hg : (goneK node k j).tries[j]? = some a := (goneK_get node k j).trans ha
  generalize goneK node k j = q at hg
  obtain ⟨tr, wi, fu⟩ := q
  show Task.mk (tr.set j a) wi fu = Task.mk tr wi fu
  congr 1
  have hg : tr[j]? = some a := hg
  apply List.ext_getElem?
  intro q
  rw [List.getElem?_set]
  split
  · rename_i e
    subst e
    rw [if_pos (List.getElem?_eq_some_iff.1 hg).1]
    exact hg.symm
  · rfl
/-- task i of the board is k -/
def putK (S : Bd) (i : Nat) (k : Task) : Bd := { S with tasks := S.tasks.set i k }
theorem putK_get (S : Bd) (i : Nat) (k : Task) (hi : i < S.tasks.length) : (putK S i k).tasks[i]? = some k := List.getElem?_set_self hi
theorem putK_put (S : Bd) (i : Nat) (k k' : Task) : putK (putK S i k) i k' = putK S i k' := by unfold putK; simp
theorem putK_same (S : Bd) (i : Nat) (k : Task) (hk : S.tasks[i]? = some k) : putK S i k = S := by
  unfold putK
  obtain ⟨m, l, p, ts, o, d⟩ := S
  congr 1
  apply List.ext_getElem?
  intro q
  rw [List.getElem?_set]
  split
  · rename_i e
    subst e
    rw [if_pos (List.getElem?_eq_some_iff.1 hk).1]
    exact hk.symm
  · rfl
end At
namespace Go.Proofs.Ytkcloaoaldklhaa
open Go.RowKit
set_option linter.unusedVariables false
set_option linter.unusedSimpArgs false
theorem BoardAt.alloc {w : World} {b g : Nat} {vs : List Value} {S : At.Bd} (h : BoardAt w b g vs S) (o : Obj) : BoardAt (w.alloc o) b g vs S := h.below ((Below.refl w.heap.size w).alloc (Nat.le_refl _) o) (Nat.le_refl _)
theorem BdR.alloc {w w' : World} {b g : Nat} {vs vs' : List Value} (h : BdR w b g vs w' vs') (o : Obj) : BdR w b g vs (w'.alloc o) vs' := ⟨h.lies, h.fr.alloc o⟩
set_option maxRecDepth 20000 in
set_option maxHeartbeats 4000000 in
theorem gone_c (b g : Nat) (vs : List Value) (S : At.Bd) (hSl : S.tasks.length ≤ 100000) (htl : ∀ k ∈ S.tasks, k.tries.length ≤ 5000000000001) (node : Int) (w : World) (h : BoardAt w b g vs S) :
    Calls Try.prog 11 #[.pointer (some ⟨b, 0, none⟩), .int .i64 node] w fun e w' => e = .returned (.tuple #[]) ∧ BoardAt w' b g vs (At.gone S node) ∧ BdR w b g vs w' vs := by
  have z : ∀ j, w.cell? ⟨b, j, none⟩ = [Value.int .i64 (S.maps : Int), .int .i64 S.limit, .int .i64 S.patience, .slice (some ⟨g, 0, none⟩) S.tasks.length S.tasks.length, .int .i64 S.opn, .bool S.dead][j]? := fun j => h.blk.cell j
  have HA := Lib.hid h
  have HTL := Lib.hid htl
  clear h htl
  obtain ⟨nn, hnn⟩ : ∃ nn, nn = S.tasks.length := ⟨_, rfl⟩
  rw [← hnn] at z hSl
  have HNN := Lib.hid hnn
  have HNB := Lib.hid hSl
  clear hnn hSl
  go_enter Try.func11, Try.ntmps11
  go_wp2_with fail
  clear z
  go_loopg [15] nn (fun gg v15 wr => ∃ i : Nat, v15 = .int .i64 (i : Int) ∧ i + gg = nn ∧ Hid (BoardAt wr b g vs (At.goneI S node i)) ∧ Hid (BdR w b g vs wr vs))
  case atStart => exact ⟨0, rfl, by omega, by rw [At.goneI_zero]; exact HA, Lib.hid (BdR.refl _ _ _ _)⟩
  case round =>
    obtain ⟨i, rfl, hgg, HB, HR⟩ := hrel
    have HG := Lib.hid hgg
    clear hgg HA
    by_cases hlt : i < nn
    · have t1 : decide ((i : Int) < (nn : Int)) = true := decide_eq_true (by omega)
      have t1n : decide (i < nn) = true := decide_eq_true hlt
      obtain ⟨k, hk⟩ : ∃ k, S.tasks[i]? = some k := ⟨S.tasks[i]'(by rw [← HNN.out]; exact hlt), List.getElem?_eq_getElem _⟩
      have hk2 : (At.goneI S node i).tasks[i]? = some k := (At.goneI_get S node i).trans hk
      have HSU := Lib.hid (At.goneI_succ S node i k hk)
      have HGL : Hid (i < (At.goneI S node i).tasks.length) := Lib.hid (by rw [At.goneI_len, ← HNN.out]; exact hlt)
      have HKL := Lib.hid (HTL.out k (List.mem_of_getElem? hk))
      have HK2 := Lib.hid hk2
      obtain ⟨v, hv, c0, c1, c2⟩ := HB.out.task hk2
      have ho := HB.out.own i v k hv hk2
      obtain ⟨A, c, rfl⟩ := own_slice ho
      have HOL : Hid (∀ q, (Value.slice A k.tries.length c).ownBlock = some q → q < wr.heap.size) := Lib.hid fun q e => (ho.lt q e).2
      have ia : ((i : Int)).toNat = i := by omega
      have ip : (0 : Int) ≤ (i : Int) := by omega
      have iz : (i : Int) < (nn : Int) := by omega
      have HV := Lib.hid hv
      have HLT := Lib.hid hlt
      generalize At.goneI S node i = Si at HB HSU HGL HK2
      clear hk hk2 hv ho hlt
      go_upto_region 4 with (fail)
      have HB1 := Lib.hid (HB.out.alloc (.cells ([.slice A k.tries.length c, .int .i64 k.winner, .int .i64 k.full] : List Value).toArray 63))
      have HR1 := Lib.hid (HR.out.alloc (.cells ([.slice A k.tries.length c, .int .i64 k.winner, .int .i64 k.full] : List Value).toArray 63))
      have HX1 := Lib.hid (Blk.new wr [.slice A k.tries.length c, .int .i64 k.winner, .int .i64 k.full] 63)
      change Code.wp _ _ _ _ (wr.alloc (.cells ([.slice A k.tries.length c, .int .i64 k.winner, .int .i64 k.full] : List Value).toArray 63))
      clear HB HR c0 c1 c2
      generalize wr.alloc (.cells ([.slice A k.tries.length c, .int .i64 k.winner, .int .i64 k.full] : List Value).toArray 63) = w1 at HB1 HR1 HX1 ⊢
      generalize wr.heap.size = g5 at HX1 HOL ⊢
      have x0 : w1.cell? ⟨g5, 0, none⟩ = some (.slice A k.tries.length c) := HX1.out.cell 0
      go_wp2_with fail
      go_loopg [22] k.tries.length (fun gg v22 wq => ∃ j : Nat, v22 = .int .i64 (j : Int) ∧ j + gg = k.tries.length ∧ Hid (BoardAt wq b g vs (At.putK Si i (At.goneK node k j))) ∧ Hid (BdR w b g vs wq vs) ∧ Hid (Blk wq g5 [.slice A k.tries.length c, .int .i64 k.winner, .int .i64 k.full] 63))
      case atStart => exact ⟨0, rfl, by omega, by rw [At.goneK_zero, At.putK_same _ _ _ HK2.out]; exact HB1, HR1, HX1⟩
      case round =>
        obtain ⟨j, rfl, hgg, HB, HR, HX⟩ := hrel
        have HGJ := Lib.hid hgg
        clear hgg HB1 HR1 HX1 x0
        by_cases hlj : j < k.tries.length
        · have s1 : decide ((j : Int) < (k.tries.length : Int)) = true := decide_eq_true (by omega)
          have s1n : decide (j < k.tries.length) = true := decide_eq_true hlj
          obtain ⟨a, ha⟩ : ∃ a, k.tries[j]? = some a := ⟨k.tries[j], List.getElem?_eq_getElem _⟩
          have hag : (At.goneK node k j).tries[j]? = some a := (At.goneK_get node k j).trans ha
          have HGS := Lib.hid (At.goneK_succ node k j a ha)
          have HGK := Lib.hid (At.goneK_skip node k j a ha)
          have HL1 := Lib.hid (At.goneK_len node k j)
          have HPG := Lib.hid (At.putK_get Si i (At.goneK node k j) HGL.out)
          have hpp := At.putK_put Si i (At.goneK node k j)
          have HPP := Lib.hid hpp
          have HAG := Lib.hid hag
          have ja : ((j : Int)).toNat = j := by omega
          have jp : (0 : Int) ≤ (j : Int) := by omega
          have jz : (j : Int) < (k.tries.length : Int) := by omega
          have HLJ := Lib.hid hlj
          obtain ⟨r, c', hvr, _, e0, e1, e2, e3, _⟩ := HB.out.setTry HPG.out HAG.out
          rw [HL1.out] at hvr
          have hve := Option.some.inj (HV.out.symm.trans hvr)
          injection hve with hA _ hc
          subst hA hc
          have hrg : r ≠ g5 := Nat.ne_of_lt (HOL.out r rfl)
          have hrg2 : g5 ≠ r := Ne.symm hrg
          clear hpp hag ha hlj hvr e3
          go_upto_region 7 with (fail)
          have HB2 := Lib.hid (HB.out.alloc (.cells ([.int .i64 a.node, .int .i64 a.begun, .int .i64 a.state] : List Value).toArray 65))
          have HR2 := Lib.hid (HR.out.alloc (.cells ([.int .i64 a.node, .int .i64 a.begun, .int .i64 a.state] : List Value).toArray 65))
          have HX2 := Lib.hid (HX.out.alloc (.cells ([.int .i64 a.node, .int .i64 a.begun, .int .i64 a.state] : List Value).toArray 65))
          have hq2 := Blk.new wr [.int .i64 a.node, .int .i64 a.begun, .int .i64 a.state] 65
          change Code.wp _ _ _ _ (wr.alloc (.cells ([.int .i64 a.node, .int .i64 a.begun, .int .i64 a.state] : List Value).toArray 65))
          clear HB HR HX e0 e1 e2
          generalize wr.alloc (.cells ([.int .i64 a.node, .int .i64 a.begun, .int .i64 a.state] : List Value).toArray 65) = w2 at HB2 HR2 HX2 hq2 ⊢
          generalize wr.heap.size = gq at hq2 ⊢
          have q0 : w2.cell? ⟨gq, 0, none⟩ = some (.int .i64 a.node) := hq2.cell 0
          have q2 : w2.cell? ⟨gq, 2, none⟩ = some (.int .i64 a.state) := hq2.cell 2
          have x0 : w2.cell? ⟨g5, 0, none⟩ = some (.slice (some ⟨r, 0, none⟩) k.tries.length c) := HX2.out.cell 0
          clear hq2
          by_cases hc : a.node = node ∧ a.state = 0
          · obtain ⟨hc1, hc2⟩ := hc
            have b1 : (a.node == node) = true := by rw [hc1]; simp
            have b2 : (a.state == 0) = true := by rw [hc2]; rfl
            obtain ⟨r', c'', hvr, _, _, _, e2, e3, hset⟩ := HB2.out.setTry HPG.out HAG.out
            rw [HL1.out] at hvr
            have hA : r = r' := by
              have hve := Option.some.inj (HV.out.symm.trans hvr)
              injection hve with hA _ _
              have := Option.some.inj hA
              injection this
            subst hA
            obtain ⟨hB3, hR3⟩ := hset 4
            have HB3 : Hid (BoardAt (w2.setCell ⟨r, j * 3 + 2, none⟩ (.int .i64 4)) b g vs (At.putK Si i (At.goneK node k (j + 1)))) := Lib.hid (by
              rw [HGS.out, show At.goA node a = { a with state := 4 } from if_pos ⟨hc1, hc2⟩, ← HPP.out]
              exact hB3)
            have HR3 := Lib.hid (HR2.out.trans hR3)
            have HX3 := Lib.hid (HX2.out.other ⟨r, j * 3 + 2, none⟩ (.int .i64 4) hrg2)
            clear hc1 hc2 hvr hset hB3 hR3
            have kw : j + 1 < 5000000000002 := by have := HKL.out; have := HLJ.out; omega
            go_wp2_with fail
            clear kw
            go_roundg (k.tries.length - (j + 1))
            case measure => have := HLJ.out; have := HGJ.out; omega
            case rel => exact ⟨j + 1, by first | rfl | go_num, by have := HLJ.out; omega, HB3, HR3, HX3⟩
          · have hsk : At.goA node a = a := if_neg hc
            rw [← HGK.out hsk] at HB2
            by_cases hc1 : a.node = node
            · have b1 : (a.node == node) = true := by rw [hc1]; simp
              have b2 : (a.state == 0) = false := beq_eq_false_iff_ne.2 fun e => hc ⟨hc1, e⟩
              clear hc hc1 hsk
              have kw : j + 1 < 5000000000002 := by have := HKL.out; have := HLJ.out; omega
              go_wp2_with fail
              clear kw
              go_roundg (k.tries.length - (j + 1))
              case measure => have := HLJ.out; have := HGJ.out; omega
              case rel => exact ⟨j + 1, by first | rfl | go_num, by have := HLJ.out; omega, HB2, HR2, HX2⟩
            · have b1 : (a.node == node) = false := beq_eq_false_iff_ne.2 hc1
              clear hc hc1 hsk
              have kw : j + 1 < 5000000000002 := by have := HKL.out; have := HLJ.out; omega
              go_wp2_with fail
              clear kw
              go_roundg (k.tries.length - (j + 1))
              case measure => have := HLJ.out; have := HGJ.out; omega
              case rel => exact ⟨j + 1, by first | rfl | go_num, by have := HLJ.out; omega, HB2, HR2, HX2⟩
        · have s1 : decide ((j : Int) < (k.tries.length : Int)) = false := decide_eq_false (by omega)
          have s1n : decide (j < k.tries.length) = false := decide_eq_false hlj
          rw [At.goneK_all node k j (by omega)] at HB
          clear hlj
          have kw : i + 1 < 100001 := by have := HNB.out; have := HLT.out; omega
          go_wp2_with fail
          clear kw
          go_roundg (nn - (i + 1))
          case measure => have := HLT.out; have := HG.out; omega
          case rel => exact ⟨i + 1, by first | rfl | go_num, by have := HLT.out; omega, by rw [HSU.out]; exact HB, HR⟩
    · have t1 : decide ((i : Int) < (nn : Int)) = false := decide_eq_false (by omega)
      have t1n : decide (i < nn) = false := decide_eq_false hlt
      rw [At.goneI_all S node i (by have := HNN.out; omega)] at HB
      clear hlt
      go_wp2
      go_end0
      exact ⟨rfl, HB.out, HR.out⟩
end Go.Proofs.Ytkcloaoaldklhaa
