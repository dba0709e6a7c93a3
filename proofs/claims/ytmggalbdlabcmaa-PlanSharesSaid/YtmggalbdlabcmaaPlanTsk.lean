/- plan: the tasks that a law lays: plain. -/
import Derived.Test.YtmggalbdlabcmaaPlan2
namespace Go.Proofs.Ytmggalbdlabcmaa
open Go.RowKit Go.Lib St Fl
set_option linter.unusedVariables false
set_option linter.unusedSimpArgs false
/-- the law's tasks -/
noncomputable def tsk (xs : List (List (Int × Int))) : List (Int × List Spot) := xs.mapIdx fun j ps => ((j : Int), ps.map spotOf)
theorem tsk_len (xs : List (List (Int × Int))) : (tsk xs).length = xs.length := by simp [tsk]
theorem tsk_next {xs : List (List (Int × Int))} {i : Nat} {ps : List (Int × Int)} (h : xs[i]? = some ps) : tsk (xs.take (i + 1)) = tsk (xs.take i) ++ [((i : Int), ps.map spotOf)] := by
  have hi := (List.getElem?_eq_some_iff.1 h).1
  unfold tsk
  rw [List.take_add_one, h]
  simp only [Option.toList_some, List.mapIdx_append, List.mapIdx_cons, List.mapIdx_nil, Nat.zero_add]
  rw [List.length_take, Nat.min_eq_left (Nat.le_of_lt hi)]
end Go.Proofs.Ytmggalbdlabcmaa
