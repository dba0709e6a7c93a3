/- attempts: Gone. (Under way.) -/
import Derived.Test.YtahpbcacfdkdjaaBoard11
namespace At
def goA (node : Int) (a : Try) : Try := if a.node = node ∧ a.state = 0 then { a with state := 4 } else a
def goK (node : Int) (k : Task) : Task := { k with tries := k.tries.map (goA node) }
def gone (S : Bd) (node : Int) : Bd := { S with tasks := S.tasks.map (goK node) }
/-- the first i tasks are done -/
def goneI (S : Bd) (node : Int) (i : Nat) : Bd := { S with tasks := (S.tasks.take i).map (goK node) ++ S.tasks.drop i }
/-- and of task i the first j tries -/
def goneK (node : Int) (k : Task) (j : Nat) : Task := { k with tries := (k.tries.take j).map (goA node) ++ k.tries.drop j }
theorem goneI_zero (S : Bd) (node : Int) : goneI S node 0 = S := by unfold goneI; simp
theorem goneI_all (S : Bd) (node : Int) (i : Nat) (h : S.tasks.length ≤ i) : goneI S node i = gone S node := by
  unfold goneI gone
  rw [List.take_of_length_le h, List.drop_eq_nil_of_le h, List.append_nil]
theorem goneI_len (S : Bd) (node : Int) (i : Nat) : (goneI S node i).tasks.length = S.tasks.length := by unfold goneI; simp; omega
theorem goneI_get (S : Bd) (node : Int) (i : Nat) : (goneI S node i).tasks[i]? = S.tasks[i]? := by
  unfold goneI
  by_cases h : i < S.tasks.length
  · rw [List.getElem?_append_right (by simp; omega)]
    simp [List.getElem?_drop, Nat.min_eq_left (Nat.le_of_lt h)]
  · rw [List.getElem?_eq_none (by simp; omega), List.getElem?_eq_none (by omega)]
theorem goneI_succ (S : Bd) (node : Int) (i : Nat) (k : Task) (hk : S.tasks[i]? = some k) : goneI S node (i + 1) = { goneI S node i with tasks := (goneI S node i).tasks.set i (goK node k) } := by
  have hi := (List.getElem?_eq_some_iff.1 hk).1
  unfold goneI
  congr 1
  rw [List.set_append_right _ _ (by simp; omega), List.take_add_one, hk, List.map_append, List.append_assoc]
  congr 1
  rw [List.length_map, List.length_take, Nat.min_eq_left (Nat.le_of_lt hi), Nat.sub_self, List.drop_eq_getElem_cons hi, List.set_cons_zero]
  rfl
theorem goneK_zero (node : Int) (k : Task) : goneK node k 0 = k := by unfold goneK; simp
theorem goneK_all (node : Int) (k : Task) (j : Nat) (h : k.tries.length ≤ j) : goneK node k j = goK node k := by
  unfold goneK goK
  rw [List.take_of_length_le h, List.drop_eq_nil_of_le h, List.append_nil]
theorem goneK_len (node : Int) (k : Task) (j : Nat) : (goneK node k j).tries.length = k.tries.length := by unfold goneK; simp; omega
theorem goneK_get (node : Int) (k : Task) (j : Nat) : (goneK node k j).tries[j]? = k.tries[j]? := by
  unfold goneK
  by_cases h : j < k.tries.length
  · rw [List.getElem?_append_right (by simp; omega)]
    simp [List.getElem?_drop, Nat.min_eq_left (Nat.le_of_lt h)]
  · rw [List.getElem?_eq_none (by simp; omega), List.getElem?_eq_none (by omega)]
theorem goneK_succ (node : Int) (k : Task) (j : Nat) (a : Try) (ha : k.tries[j]? = some a) : goneK node k (j + 1) = { goneK node k j with tries := (goneK node k j).tries.set j (goA node a) } := by
  have hi := (List.getElem?_eq_some_iff.1 ha).1
  unfold goneK
  congr 1
  rw [List.set_append_right _ _ (by simp; omega), List.take_add_one, ha, List.map_append, List.append_assoc]
  congr 1
  rw [List.length_map, List.length_take, Nat.min_eq_left (Nat.le_of_lt hi), Nat.sub_self, List.drop_eq_getElem_cons hi, List.set_cons_zero]
  rfl
theorem goneK_skip (node : Int) (k : Task) (j : Nat) (a : Try) (ha : k.tries[j]? = some a) (hs : goA node a = a) : goneK node k (j + 1) = goneK node k j := by
  rw [goneK_succ node k j a ha, hs]
  have hg : (goneK node k j).tries[j]? = some a := (goneK_get node k j).trans ha
  generalize goneK node k j = q at hg
  obtain ⟨tr, wi, fu⟩ := q
  show Task.mk (tr.set j a) wi fu = Task.mk tr wi fu
  congr 1
  have hg : tr[j]? = some a := hg
  apply List.ext_getElem?
  intro q
  rw [List.getElem?_set]
  split
  · rename_i e
    subst e
    rw [if_pos (List.getElem?_eq_some_iff.1 hg).1]
    exact hg.symm
  · rfl
/-- task i of the board is k -/
def putK (S : Bd) (i : Nat) (k : Task) : Bd := { S with tasks := S.tasks.set i k }
theorem putK_get (S : Bd) (i : Nat) (k : Task) (hi : i < S.tasks.length) : (putK S i k).tasks[i]? = some k := List.getElem?_set_self hi
theorem putK_put (S : Bd) (i : Nat) (k k' : Task) : putK (putK S i k) i k' = putK S i k' := by unfold putK; simp
theorem putK_same (S : Bd) (i : Nat) (k : Task) (hk : S.tasks[i]? = some k) : putK S i k = S := by
  unfold putK
  obtain ⟨m, l, p, ts, o, d⟩ := S
  congr 1
  apply List.ext_getElem?
  intro q
  rw [List.getElem?_set]
  split
  · rename_i e
    subst e
    rw [if_pos (List.getElem?_eq_some_iff.1 hk).1]
    exact hk.symm
  · rfl
end At
namespace Go.Proofs.Ytahpbcacfdkdjaa
open Go.RowKit
set_option linter.unusedVariables false
set_option linter.unusedSimpArgs false
theorem BoardAt.alloc {w : World} {b g : Nat} {vs : List Value} {S : At.Bd} (h : BoardAt w b g vs S) (o : Obj) : BoardAt (w.alloc o) b g vs S := h.below ((Below.refl w.heap.size w).alloc (Nat.le_refl _) o) (Nat.le_refl _)
theorem BdR.alloc {w w' : World} {b g : Nat} {vs vs' : List Value} (h : BdR w b g vs w' vs') (o : Obj) : BdR w b g vs (w'.alloc o) vs' := ⟨h.lies, h.fr.alloc o⟩
end Go.Proofs.Ytahpbcacfdkdjaa
