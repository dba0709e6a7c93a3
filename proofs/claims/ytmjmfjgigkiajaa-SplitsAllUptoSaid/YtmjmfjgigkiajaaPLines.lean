/- Plain laws of the lines of a text. -/
import Derived.Test.YtmjmfjgigkiajaaKit
import Derived.Lib.IndexLaws
namespace Go.Proofs.Ytmjmfjgigkiajaa.Ln
set_option linter.unusedVariables false
set_option linter.unusedSimpArgs false
/-- how long the first line is -/
def len (l : List UInt8) : Nat := (l.takeWhile (· != 10)).length
theorem len_le (l : List UInt8) : len l ≤ l.length := by
  unfold len
  exact (List.takeWhile_prefix _).length_le
theorem len_cons (b : UInt8) (l : List UInt8) : len (b :: l) = if b = 10 then 0 else len l + 1 := by
  unfold len
  by_cases h : b = 10
  · simp [h]
  · rw [List.takeWhile_cons_of_pos (by simpa using h), if_neg h]; rfl
/-- the lines of a text, and the places of their first bytes -/
def lines (at_ : Nat) : List UInt8 → List (Nat × List UInt8)
  | [] => []
  | x :: l => (at_, (x :: l).take (len (x :: l))) :: lines (at_ + (len (x :: l) + 1)) ((x :: l).drop (len (x :: l) + 1))
termination_by l => l.length
decreasing_by simp; omega
theorem lines_nil (a : Nat) : lines a [] = [] := by rw [lines]
theorem lines_ne (a : Nat) {l : List UInt8} (h : l ≠ []) : lines a l = (a, l.take (len l)) :: lines (a + (len l + 1)) (l.drop (len l + 1)) := by
  cases l with
  | nil => exact absurd rfl h
  | cons x l => rw [lines]
theorem lines_len : ∀ (n : Nat) (a : Nat) (l : List UInt8), l.length ≤ n → (lines a l).length ≤ l.length
  | n, a, [], _ => by rw [lines_nil]; simp
  | 0, a, x :: l, h => by simp at h
  | n + 1, a, x :: l, h => by
    rw [lines]
    have := lines_len n (a + (len (x :: l) + 1)) ((x :: l).drop (len (x :: l) + 1)) (by simp at h ⊢; omega)
    simp at this h ⊢; omega
theorem len_at : ∀ (l : List UInt8) (k : Nat), k ≤ l.length → (∀ j, j < k → l[j]? ≠ some 10) → (k < l.length → l[k]? = some 10) → len l = k
  | [], k, h, _, _ => by
    simp at h; subst h; rfl
  | b :: l, 0, _, _, h2 => by
    have := h2 (by simp)
    simp at this
    rw [len_cons, if_pos this]
  | b :: l, k + 1, h, h1, h2 => by
    have hb := h1 0 (by omega)
    simp at hb
    rw [len_cons, if_neg hb, len_at l k (by simpa using h) (fun j hj => by have := h1 (j + 1) (by omega); simpa using this) (fun hk => by have := h2 (by simpa using hk); simpa using this)]
theorem index_none {l : List UInt8} (h : Lib.indexByte l 10 = -1) : len l = l.length :=
  len_at l l.length (Nat.le_refl _) (fun j _ => Lib.indexByte_none h j) (fun hk => absurd hk (Nat.lt_irrefl _))
theorem index_some {l : List UInt8} {o : Nat} (h : Lib.indexByte l 10 = o) : len l = o := by
  obtain ⟨h1, h2⟩ := Lib.indexByte_some h
  have := (List.getElem?_eq_some_iff.1 h1).1
  exact len_at l o (by omega) h2 (fun _ => h1)
/-- the places rise -/
theorem lines_ge : ∀ (n : Nat) (a : Nat) (l : List UInt8), l.length ≤ n → ∀ p ∈ lines a l, a ≤ p.1
  | n, a, [], _, p, hp => by rw [lines_nil] at hp; cases hp
  | 0, a, x :: l, h, _, _ => by simp at h
  | n + 1, a, x :: l, h, p, hp => by
    rw [lines] at hp
    rcases List.mem_cons.1 hp with rfl | hp
    · exact Nat.le_refl _
    · have := lines_ge n _ _ (by simp at h ⊢; omega) p hp
      omega
theorem lines_lt : ∀ (n : Nat) (a : Nat) (l : List UInt8), l.length ≤ n → (lines a l).Pairwise fun p q => p.1 < q.1
  | n, a, [], _ => by rw [lines_nil]; exact List.Pairwise.nil
  | 0, a, x :: l, h => by simp at h
  | n + 1, a, x :: l, h => by
    rw [lines]
    refine List.pairwise_cons.2 ⟨fun p hp => ?_, lines_lt n _ _ (by simp at h ⊢; omega)⟩
    have := lines_ge n _ _ (by simp at h ⊢; omega) p hp
    show a < p.1
    omega
/-- what a split takes of so many lines -/
def cut (lo hi : Int) (l : List (Nat × List UInt8)) : List (Nat × List UInt8) := l.filter fun p => decide (lo ≤ (p.1 : Int)) && decide ((p.1 : Int) < hi)
theorem cut_len (lo hi : Int) (l : List (Nat × List UInt8)) : (cut lo hi l).length ≤ l.length := List.length_filter_le _ _
theorem cut_app (lo hi : Int) (a b : List (Nat × List UInt8)) : cut lo hi (a ++ b) = cut lo hi a ++ cut lo hi b := List.filter_append ..
theorem cut_one (lo hi : Int) (p : Nat × List UInt8) : cut lo hi [p] = if lo ≤ (p.1 : Int) ∧ (p.1 : Int) < hi then [p] else [] := by
  unfold cut
  by_cases h : lo ≤ (p.1 : Int) ∧ (p.1 : Int) < hi
  · rw [if_pos h]; simp [h.1, h.2]
  · rw [if_neg h]
    by_cases h1 : lo ≤ (p.1 : Int)
    · have h2 : ¬ (p.1 : Int) < hi := fun e => h ⟨h1, e⟩
      simp [h2]
    · simp [h1]
/-- behind a line at hi or beyond there is none for the split -/
theorem cut_end {lo hi : Int} {l : List (Nat × List UInt8)} {p : Nat × List UInt8} (pre suf : List (Nat × List UInt8)) (hl : l = pre ++ p :: suf) (hp : l.Pairwise fun p q => p.1 < q.1) (h : hi ≤ (p.1 : Int)) : cut lo hi l = cut lo hi pre := by
  subst hl
  rw [cut_app]
  have : cut lo hi (p :: suf) = [] := by
    unfold cut
    rw [List.filter_eq_nil_iff]
    intro q hq
    have hge : p.1 ≤ q.1 := by
      rcases List.mem_cons.1 hq with rfl | hq
      · exact Nat.le_refl _
      · exact Nat.le_of_lt ((List.pairwise_cons.1 (List.pairwise_append.1 hp).2.1).1 q hq)
    simp; omega
  rw [this, List.append_nil]
end Go.Proofs.Ytmjmfjgigkiajaa.Ln
