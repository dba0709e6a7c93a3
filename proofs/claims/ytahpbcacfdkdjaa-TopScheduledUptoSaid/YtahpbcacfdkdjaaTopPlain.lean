/- TopScheduled: what one round leaves: plain. -/
import Derived.Test.YtahpbcacfdkdjaaTopEnds
import Derived.Test.YtahpbcacfdkdjaaPlan2
namespace Go.Proofs.Ytahpbcacfdkdjaa
open Go.RowKit
set_option linter.unusedVariables false
set_option linter.unusedSimpArgs false
/-- how many attempts each task has had -/
def bgn (S : At.Bd) : List Int := S.tasks.map fun k => (k.tries.length : Int)
theorem bgn_len (S : At.Bd) : (bgn S).length = S.tasks.length := by simp [bgn]
theorem bgn_at {S : At.Bd} {c : Nat} {k : At.Task} (hk : S.tasks[c]? = some k) : (bgn S)[c]? = some (k.tries.length : Int) := by unfold bgn; rw [List.getElem?_map, hk]; rfl
theorem bgn_set {S : At.Bd} {c : Nat} {k' : At.Task} (o : Int) (d : Bool) : bgn { S with tasks := S.tasks.set c k', opn := o, dead := d } = (bgn S).set c (k'.tries.length : Int) := by unfold bgn; rw [List.map_set]
theorem ended_more (nd : Int) {S : At.Bd} {i m r wn : Nat} (h : En S i m r wn) {c : Nat} {k : At.Task} (hk : S.tasks[c]? = some k) (hm : At.may S c k = true) (nw : Int) (how : Int) (hh : how = 1 ∨ how = 2) :
    bgn (At.report (At.start S (c : Int) nd nw).2 (c : Int) ((k.tries.length : Int) + 1) how).2 = (bgn S).set c ((k.tries.length : Int) + 1) ∧
    (At.report (At.start S (c : Int) nd nw).2 (c : Int) ((k.tries.length : Int) + 1) how).2.opn = (if how = 1 ∧ c < S.maps then S.opn - 1 else S.opn) := by
  have hw0 : k.winner = 0 := (may_iff.1 hm).1
  rw [start_is nd h hk hm nw]
  dsimp only
  rw [report_is nd hk (At.clamp nw 0 1099511627776) how (by omega)]
  dsimp only
  unfold At.rep
  rw [if_neg (by omega)]
  rcases hh with rfl | rfl
  · rw [if_pos ⟨rfl, hw0⟩]
    dsimp only
    refine ⟨?_, ?_⟩
    · unfold bgn
      rw [List.set_set, List.map_set]
      congr 1
      simp
    · by_cases hc : c < S.maps
      · rw [if_pos hc, if_pos ⟨rfl, hc⟩]
      · rw [if_neg hc, if_neg (fun e => hc e.2)]
  · rw [if_neg (by rintro ⟨e, _⟩; cases e)]
    dsimp only
    refine ⟨?_, ?_⟩
    · unfold bgn
      rw [List.set_set, List.map_set]
      congr 1
      simp
    · rw [if_neg (by rintro ⟨e, _⟩; cases e)]
theorem pick_lt {ds : List Int} (h : 0 < ds.length) : ∃ k : Nat, k < ds.length ∧ pickP ds = (k : Int) := by
  unfold pickP
  rcases choose_is (enum ds) with ⟨_, h2⟩ | ⟨y, h1, h2⟩
  · have := congrArg List.length h2
    simp [enum] at this
    rw [this] at h
    cases h
  · rw [h1]
    obtain ⟨q, hq⟩ := List.mem_iff_getElem?.1 h2.mem
    unfold enum at hq
    rw [List.getElem?_mapIdx] at hq
    obtain ⟨d, hd, rfl⟩ := Option.map_eq_some_iff.1 hq
    exact ⟨q, (List.getElem?_eq_some_iff.1 hd).1, rfl⟩
theorem pick_nil : pickP [] = -1 := rfl
theorem opn_done {S : At.Bd} {i m r wn : Nat} (h : En S i m r wn) (hall : ∀ k ∈ S.tasks, k.winner ≠ 0) : S.opn = 0 := by
  rw [h.ok.opn]
  have : (S.tasks.take S.maps).countP isOpen = 0 := by
    rw [List.countP_eq_zero]
    intro k hk
    have := hall k (List.mem_of_mem_take hk)
    unfold isOpen
    simpa using this
  rw [this]; rfl
theorem fin_done {S : At.Bd} (hall : ∀ k ∈ S.tasks, k.winner ≠ 0) : At.fin S = true := by
  unfold At.fin
  rw [List.all_eq_true]
  intro k hk
  exact decide_eq_true (hall k (List.mem_of_mem_drop hk))
theorem fin_new (m r : Nat) (hm : m ≤ 50) (hr : r ≤ 50) : At.fin (At.new (m : Int) (r : Int) 1 3) = decide (r = 0) := by
  have h1 : At.clamp (m : Int) 0 4096 = m := by unfold At.clamp; omega
  have h2 : At.clamp (r : Int) 0 4096 = r := by unfold At.clamp; omega
  unfold At.fin At.new
  rw [h1, h2]
  simp only [Int.toNat_natCast, List.drop_replicate, Nat.add_sub_cancel_left]
  by_cases hr0 : r = 0
  · subst hr0; rfl
  · rw [decide_eq_false hr0, List.all_replicate]
    simp [hr0, At.empty]
theorem opn_new (m r : Nat) (hm : m ≤ 50) : (At.new (m : Int) (r : Int) 1 3).opn = m := by unfold At.new At.clamp; dsimp only; omega
theorem bgn_new (m r : Nat) (hm : m ≤ 50) (hr : r ≤ 50) : bgn (At.new (m : Int) (r : Int) 1 3) = List.replicate (m + r) 0 := by
  have h1 : At.clamp (m : Int) 0 4096 = m := by unfold At.clamp; omega
  have h2 : At.clamp (r : Int) 0 4096 = r := by unfold At.clamp; omega
  unfold bgn At.new
  rw [h1, h2]
  simp [At.empty]
end Go.Proofs.Ytahpbcacfdkdjaa
