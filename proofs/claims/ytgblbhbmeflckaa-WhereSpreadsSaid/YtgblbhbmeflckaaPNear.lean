/- Plain laws of stable sorting: equals keep their order; the sorted list has the same elements. -/
import Derived.Test.YtgblbhbmeflckaaPSort
namespace Go.Proofs.Ytgblbhbmeflckaa.St
set_option linter.unusedVariables false
set_option linter.unusedSimpArgs false
/-- x may stand ahead of y: it is less, or not greater and ahead by number. -/
def Ahead (lt : Int → Int → Bool) (x y : Int) : Prop := lt x y = true ∨ (lt y x = false ∧ x < y)
theorem Ahead.le {lt : Int → Int → Bool} (S : Swo lt) {x y : Int} (h : Ahead lt x y) : lt y x = false := by
  rcases h with h | h
  · exact S.asym h
  · exact h.1
theorem ins_ahead {lt : Int → Int → Bool} (S : Swo lt) (x : Int) : ∀ (l : List Int), l.Pairwise (Ahead lt) → (∀ y ∈ l, x < y) → (ins lt x l).Pairwise (Ahead lt)
  | [], _, _ => List.pairwise_singleton _ _
  | y :: ys, h, hx => by
    have h1 := List.pairwise_cons.1 h
    unfold ins
    split
    · rename_i hc
      refine List.pairwise_cons.2 ⟨fun z hz => ?_, ins_ahead S x ys h1.2 fun z hz => hx z (List.mem_cons_of_mem _ hz)⟩
      rcases (ins_mem x z ys).1 hz with rfl | hz
      · exact Or.inl hc
      · exact h1.1 z hz
    · rename_i hc
      have hc : lt y x = false := by simpa using hc
      refine List.pairwise_cons.2 ⟨fun z hz => ?_, h⟩
      rcases List.mem_cons.1 hz with rfl | hz2
      · exact Or.inr ⟨hc, hx _ (List.mem_cons_self ..)⟩
      · exact Or.inr ⟨S.trans hc ((h1.1 z hz2).le S), hx z hz⟩
theorem isort_mem' {lt : Int → Int → Bool} (x : Int) (l : List Int) : x ∈ isort lt l ↔ x ∈ l := by
  induction l with
  | nil => simp [isort]
  | cons y ys ih => rw [isort, ins_mem, ih]; simp
theorem isort_ahead {lt : Int → Int → Bool} (S : Swo lt) : ∀ (l : List Int), l.Pairwise (· < ·) → (isort lt l).Pairwise (Ahead lt)
  | [], _ => List.Pairwise.nil
  | x :: xs, h => by
    have h1 := List.pairwise_cons.1 h
    exact ins_ahead S x _ (isort_ahead S xs h1.2) fun y hy => h1.1 y ((isort_mem' y xs).1 hy)
end Go.Proofs.Ytgblbhbmeflckaa.St
