/- the document's Spread: what is left of the list: plain. -/
import Derived.Test.YtgblbhbmeflckaaSpread
namespace Go.Proofs.Ytgblbhbmeflckaa
open Go.RowKit Go.Lib St Fl
set_option linter.unusedVariables false
set_option linter.unusedSimpArgs false
theorem nearN_nodup (zr zi : Nat) (re im : Nat → Nat) (n : Nat) : (nearN zr zi re im n).Nodup := by
  unfold nearN List.Nodup
  rw [List.pairwise_map]
  refine (nearL_ahead zr zi re im n).imp_of_mem ?_
  intro x y hx hy h e
  obtain ⟨a, _, rfl⟩ := (nearL_mem zr zi re im n x).1 hx
  obtain ⟨b, _, rfl⟩ := (nearL_mem zr zi re im n y).1 hy
  have : a = b := by simpa using e
  subst this
  omega
/-- what is neither taken nor no place -/
noncomputable def leftS (zr zi : Nat) (re im : Nat → Nat) (tk : Nat → Bool) (l : List Nat) : List Nat := l.filter fun j => !tk j && !decide (distI (pl zr) (pl zi) (pl (re j)) (pl (im j)) < 0)
theorem leftS_none (zr zi : Nat) (re im : Nat → Nat) (l : List Nat) : leftS zr zi re im (fun _ => false) l = keepS zr zi re im l := rfl
theorem leftS_mem {zr zi : Nat} {re im : Nat → Nat} {tk : Nat → Bool} {l : List Nat} {j : Nat} (h : j ∈ leftS zr zi re im tk l) : j ∈ keepS zr zi re im l := by
  unfold leftS at h
  unfold keepS
  rw [List.mem_filter] at h ⊢
  refine ⟨h.1, ?_⟩
  have := h.2
  rw [Bool.and_eq_true] at this
  exact this.2
theorem leftS_snoc (zr zi : Nat) (re im : Nat → Nat) (tk : Nat → Bool) (l : List Nat) (j : Nat) : leftS zr zi re im tk (l ++ [j]) = if tk j = true ∨ distI (pl zr) (pl zi) (pl (re j)) (pl (im j)) < 0 then leftS zr zi re im tk l else leftS zr zi re im tk l ++ [j] := by
  unfold leftS
  rw [List.filter_append]
  by_cases h1 : tk j = true
  · rw [if_pos (.inl h1)]; simp [h1]
  · by_cases h2 : distI (pl zr) (pl zi) (pl (re j)) (pl (im j)) < 0
    · rw [if_pos (.inr h2)]; simp [h2]
    · rw [if_neg (by rintro (h | h); exact h1 h; exact h2 h)]
      congr 1
      have : tk j = false := by simpa using h1
      simp [this]; omega
theorem erase_filter : ∀ (l : List Nat) (k i : Nat), l.Nodup → l[k]? = some i → l.eraseIdx k = l.filter fun j => decide (j ≠ i)
  | [], k, i, _, h => by cases h
  | a :: l, 0, i, hn, h => by
    obtain rfl : a = i := by simpa using h
    rw [List.eraseIdx_cons_zero, List.filter_cons]
    rw [List.nodup_cons] at hn
    rw [if_neg (by simp)]
    refine (List.filter_eq_self.2 fun j hj => ?_).symm
    rw [decide_eq_true_iff]
    intro e
    exact hn.1 (e ▸ hj)
  | a :: l, k + 1, i, hn, h => by
    rw [List.nodup_cons] at hn
    have h' : l[k]? = some i := by simpa using h
    rw [List.eraseIdx_cons_succ, List.filter_cons, erase_filter l k i hn.2 h', if_pos (by
      rw [decide_eq_true_iff]
      intro e
      exact hn.1 (by rw [e]; exact List.mem_of_getElem? h'))]
/-- one is taken -/
theorem leftS_take {zr zi : Nat} {re im : Nat → Nat} {tk : Nat → Bool} {l : List Nat} (hn : l.Nodup) {k i : Nat} (hi : (leftS zr zi re im tk l)[k]? = some i) : leftS zr zi re im (fun j => if j = i then true else tk j) l = (leftS zr zi re im tk l).eraseIdx k := by
  have hnd : (leftS zr zi re im tk l).Nodup := hn.filter _
  have hmem := List.mem_of_getElem? hi
  have e1 : (leftS zr zi re im tk l).eraseIdx k = (leftS zr zi re im tk l).filter fun j => decide (j ≠ i) := erase_filter _ _ _ hnd hi
  rw [e1]
  unfold leftS
  rw [List.filter_filter]
  apply List.filter_congr
  intro j _
  by_cases h : j = i
  · simp [h]
  · simp [h]
end Go.Proofs.Ytgblbhbmeflckaa
