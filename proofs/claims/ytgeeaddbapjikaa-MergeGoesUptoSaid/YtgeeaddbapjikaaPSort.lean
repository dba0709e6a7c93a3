/- Plain laws of stable sorting: insertion, merging, rotating. -/
import Derived.Laws.FloatBits
namespace Go.Proofs.Ytgeeaddbapjikaa.St
set_option linter.unusedVariables false
set_option linter.unusedSimpArgs false
variable {α : Type}
/-- lt is a strict order in which to be equal is an equivalence. -/
structure Swo (lt : α → α → Bool) : Prop where
  asym : ∀ {x y}, lt x y = true → lt y x = false
  trans : ∀ {x y z}, lt y x = false → lt z y = false → lt z x = false
variable {lt : α → α → Bool}
theorem Swo.irr (S : Swo lt) (x : α) : lt x x = false := by
  cases h : lt x x
  · rfl
  · have := S.asym h; rw [h] at this; cases this
theorem Swo.lt_of (S : Swo lt) {x y z : α} (h : lt x y = true) (k : lt z y = false) : lt x z = true := by
  cases e : lt x z
  · have := S.trans k e; rw [h] at this; cases this
  · rfl
theorem Swo.lt_of' (S : Swo lt) {x y z : α} (h : lt y x = false) (k : lt y z = true) : lt x z = true := by
  cases e : lt x z
  · have := S.trans e h; rw [k] at this; cases this
  · rfl
def ins (lt : α → α → Bool) (x : α) : List α → List α
  | [] => [x]
  | y :: ys => if lt y x then y :: ins lt x ys else x :: y :: ys
def isort (lt : α → α → Bool) : List α → List α
  | [] => []
  | x :: xs => ins lt x (isort lt xs)
def merge (lt : α → α → Bool) : List α → List α → List α
  | [], ys => ys
  | x :: xs, [] => x :: xs
  | x :: xs, y :: ys => if lt y x then y :: merge lt (x :: xs) ys else x :: merge lt xs (y :: ys)
termination_by xs ys => xs.length + ys.length
def Sorted (lt : α → α → Bool) (l : List α) : Prop := l.Pairwise fun x y => lt y x = false
theorem ins_len (x : α) (l : List α) : (ins lt x l).length = l.length + 1 := by
  induction l with
  | nil => rfl
  | cons y ys ih => unfold ins; split <;> simp [ih]
theorem isort_len (l : List α) : (isort lt l).length = l.length := by
  induction l with
  | nil => rfl
  | cons x xs ih => simp [isort, ins_len, ih]
theorem ins_mem (x z : α) (l : List α) : z ∈ ins lt x l ↔ z = x ∨ z ∈ l := by
  induction l with
  | nil => simp [ins]
  | cons y ys ih =>
    unfold ins
    split
    · simp [ih]; constructor
      · rintro (h | h | h) <;> simp [h]
      · rintro (h | h | h) <;> simp [h]
    · simp
theorem ins_sorted (S : Swo lt) (x : α) (l : List α) (h : Sorted lt l) : Sorted lt (ins lt x l) := by
  induction l with
  | nil => exact List.pairwise_singleton _ _
  | cons y ys ih =>
    have h1 := List.pairwise_cons.1 h
    unfold ins
    split
    · rename_i hc
      refine List.pairwise_cons.2 ⟨fun z hz => ?_, ih h1.2⟩
      rcases (ins_mem x z ys).1 hz with rfl | hz
      · exact S.asym hc
      · exact h1.1 z hz
    · rename_i hc
      have hc : lt y x = false := by simpa using hc
      refine List.pairwise_cons.2 ⟨fun z hz => ?_, h⟩
      rcases List.mem_cons.1 hz with rfl | hz
      · exact hc
      · exact S.trans hc (h1.1 z hz)
theorem isort_sorted (S : Swo lt) (l : List α) : Sorted lt (isort lt l) := by
  induction l with
  | nil => exact List.Pairwise.nil
  | cons x xs ih => exact ins_sorted S x _ ih
theorem merge_nil_right (l : List α) : merge lt l [] = l := by cases l <;> simp [merge]
theorem merge_nil_left (l : List α) : merge lt [] l = l := by simp [merge]
theorem ins_ins_merge (S : Swo lt) (x : α) : ∀ (n : Nat) (s t : List α), s.length + t.length ≤ n → Sorted lt s → merge lt (ins lt x s) t = ins lt x (merge lt s t)
  | _, [], [], _, _ => by simp [merge, ins]
  | n, [], y :: t, hn, _ => by
    have ih := fun (n' : Nat) (h : n' < n) => ins_ins_merge S x n'
    rw [merge_nil_left]
    unfold ins
    rw [merge]
    split
    · rename_i hc
      congr 1
      cases n with
      | zero => simp at hn
      | succ n =>
        have := ih n (by omega) [] t (by simp at hn ⊢; omega) List.Pairwise.nil
        rw [merge_nil_left] at this
        exact this
    · rw [merge_nil_left]
  | n, a :: s, [], hn, _ => by rw [merge_nil_right, merge_nil_right]
  | n, a :: s, y :: t, hn, hs => by
    have ih := fun (n' : Nat) (h : n' < n) => ins_ins_merge S x n'
    have h1 := List.pairwise_cons.1 hs
    cases n with
    | zero => simp at hn
    | succ n =>
      by_cases hax : lt a x = true
      · -- a stands ahead of x
        have e1 : ins lt x (a :: s) = a :: ins lt x s := by rw [ins, if_pos hax]
        rw [e1]
        by_cases hya : lt y a = true
        · rw [merge, if_pos hya, merge, if_pos hya]
          have hyx : lt y x = true := by
            exact S.lt_of hya (S.asym hax)
          have := ih n (by omega) (a :: s) t (by simp at hn ⊢; omega) hs
          rw [e1] at this
          rw [this, show ins lt x (y :: merge lt (a :: s) t) = y :: ins lt x (merge lt (a :: s) t) by rw [ins, if_pos hyx]]
        · rw [merge, if_neg hya, merge, if_neg hya]
          have := ih n (by omega) s (y :: t) (by simp at hn ⊢; omega) h1.2
          rw [this, show ins lt x (a :: merge lt s (y :: t)) = a :: ins lt x (merge lt s (y :: t)) by rw [ins, if_pos hax]]
      · have e1 : ins lt x (a :: s) = x :: a :: s := by rw [ins, if_neg hax]
        rw [e1]
        have hax' : lt a x = false := by simpa using hax
        by_cases hya : lt y a = true
        · by_cases hyx : lt y x = true
          · rw [merge, if_pos hyx]
            have := ih n (by omega) (a :: s) t (by simp at hn ⊢; omega) hs
            rw [e1] at this
            rw [this, show merge lt (a :: s) (y :: t) = y :: merge lt (a :: s) t by rw [merge, if_pos hya], show ins lt x (y :: merge lt (a :: s) t) = y :: ins lt x (merge lt (a :: s) t) by rw [ins, if_pos hyx]]
          · rw [merge, if_neg hyx, show merge lt (a :: s) (y :: t) = y :: merge lt (a :: s) t by rw [merge, if_pos hya], ins, if_neg hyx]
        · have hyx : ¬ lt y x = true := by
            have hya' : lt y a = false := by simpa using hya
            rw [S.trans hax' hya']; decide
          rw [merge, if_neg hyx, show merge lt (a :: s) (y :: t) = a :: merge lt s (y :: t) by rw [merge, if_neg hya], ins, if_neg hax]
theorem isort_append (S : Swo lt) (xs ys : List α) : isort lt (xs ++ ys) = merge lt (isort lt xs) (isort lt ys) := by
  induction xs with
  | nil => simp [isort, merge]
  | cons x xs ih =>
    show ins lt x (isort lt (xs ++ ys)) = merge lt (ins lt x (isort lt xs)) (isort lt ys)
    rw [ih, ins_ins_merge S x _ _ _ (Nat.le_refl _) (isort_sorted S xs)]
/-- Parted where the first of one part stand ahead of the last of the other. -/
theorem merge_parts (S : Swo lt) : ∀ (n : Nat) (a1 a2 b1 b2 : List α), a1.length + b1.length ≤ n → Sorted lt (a1 ++ a2) → Sorted lt (b1 ++ b2) → (∀ x ∈ a1, ∀ y ∈ b2, lt y x = false) → (∀ x ∈ a2, ∀ y ∈ b1, lt y x = true) →
    merge lt (a1 ++ a2) (b1 ++ b2) = merge lt a1 b1 ++ merge lt a2 b2
  | _, [], a2, [], b2, _, _, _, _, _ => by simp [merge]
  | n, [], a2, y :: b1, b2, hn, ha, hb, h1, h2 => by
    have ih := fun (n' : Nat) (h : n' < n) => merge_parts S n'
    cases n with
    | zero => simp at hn
    | succ n =>
      have hb' := List.pairwise_cons.1 hb
      have hr := ih n (by omega) [] a2 b1 b2 (by simp at hn ⊢; omega) ha hb'.2 (fun x hx => by cases hx) (fun x hx z hz => h2 x hx z (List.mem_cons_of_mem _ hz))
      simp only [List.nil_append] at hr ⊢
      rw [merge_nil_left] at hr ⊢
      cases a2 with
      | nil => simp [merge]
      | cons x a2 =>
        have := h2 x (List.mem_cons_self ..) y (List.mem_cons_self ..)
        show merge lt (x :: a2) (y :: (b1 ++ b2)) = _
        rw [merge, if_pos this, hr]; rfl
  | n, x :: a1, a2, [], b2, hn, ha, hb, h1, h2 => by
    have ih := fun (n' : Nat) (h : n' < n) => merge_parts S n'
    cases n with
    | zero => simp at hn
    | succ n =>
      have ha' := List.pairwise_cons.1 ha
      have hr := ih n (by omega) a1 a2 [] b2 (by simp at hn ⊢; omega) ha'.2 hb (fun z hz => h1 z (List.mem_cons_of_mem _ hz)) (fun z hz y hy => by cases hy)
      simp only [List.nil_append] at hr ⊢
      rw [merge_nil_right] at hr ⊢
      cases b2 with
      | nil => rw [merge_nil_right, merge_nil_right]
      | cons y b2 =>
        have := h1 x (List.mem_cons_self ..) y (List.mem_cons_self ..)
        show merge lt (x :: (a1 ++ a2)) (y :: b2) = _
        rw [merge, if_neg (by rw [this]; decide), hr]; rfl
  | n, x :: a1, a2, y :: b1, b2, hn, ha, hb, h1, h2 => by
    have ih := fun (n' : Nat) (h : n' < n) => merge_parts S n'
    cases n with
    | zero => simp at hn
    | succ n =>
      have ha' := List.pairwise_cons.1 ha
      have hb' := List.pairwise_cons.1 hb
      show merge lt (x :: (a1 ++ a2)) (y :: (b1 ++ b2)) = _
      by_cases hc : lt y x = true
      · rw [merge, if_pos hc, merge, if_pos hc]
        have hr := ih n (by omega) (x :: a1) a2 b1 b2 (by simp at hn ⊢; omega) ha hb'.2 h1 (fun z hz y hy => h2 z hz y (List.mem_cons_of_mem _ hy))
        rw [show x :: (a1 ++ a2) = x :: a1 ++ a2 from rfl, hr]; rfl
      · rw [merge, if_neg hc, merge, if_neg hc]
        have hr := ih n (by omega) a1 a2 (y :: b1) b2 (by simp at hn ⊢; omega) ha'.2 hb (fun z hz => h1 z (List.mem_cons_of_mem _ hz)) h2
        rw [show y :: (b1 ++ b2) = y :: b1 ++ b2 from rfl, hr]; rfl
theorem merge_len : ∀ (n : Nat) (a b : List α), a.length + b.length ≤ n → (merge lt a b).length = a.length + b.length
  | _, [], b, _ => by simp [merge]
  | _, x :: a, [], _ => by rw [merge_nil_right]; simp
  | n, x :: a, y :: b, hn => by
    have ih := fun (n' : Nat) (h : n' < n) => merge_len n'
    cases n with
    | zero => simp at hn
    | succ n =>
      rw [merge]
      split
      · rw [List.length_cons, ih n (by omega) _ _ (by simp at hn ⊢; omega)]; simp; omega
      · rw [List.length_cons, ih n (by omega) _ _ (by simp at hn ⊢; omega)]; simp; omega
end Go.Proofs.Ytgeeaddbapjikaa.St
