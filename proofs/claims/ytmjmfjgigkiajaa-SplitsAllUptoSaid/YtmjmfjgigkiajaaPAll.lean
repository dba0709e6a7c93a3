/- Plain laws: lines put together are the lines again; the parts of a list that rises. -/
import Derived.Test.YtmjmfjgigkiajaaPLines
namespace Go.Proofs.Ytmjmfjgigkiajaa.Ln
set_option linter.unusedVariables false
set_option linter.unusedSimpArgs false
theorem len_app {l : List UInt8} (r : List UInt8) (h : ∀ b ∈ l, b ≠ 10) : len (l ++ 10 :: r) = l.length :=
  len_at _ _ (by simp) (fun j hj => by
    rw [List.getElem?_append_left hj]
    intro e
    exact h 10 (List.mem_of_getElem? e) rfl) (fun _ => by rw [List.getElem?_append_right (Nat.le_refl _)]; simp)
theorem lines_piece (a : Nat) {l : List UInt8} (r : List UInt8) (h : ∀ b ∈ l, b ≠ 10) : lines a (l ++ 10 :: r) = (a, l) :: lines (a + (l.length + 1)) r := by
  rw [lines_ne a (by simp), len_app r h]
  simp
theorem len_all {l : List UInt8} (h : ∀ b ∈ l, b ≠ 10) : len l = l.length :=
  len_at _ _ (Nat.le_refl _) (fun j hj e => h 10 (List.mem_of_getElem? e) rfl) (fun hk => absurd hk (Nat.lt_irrefl _))
theorem lines_last (a : Nat) {l : List UInt8} (hn : l ≠ []) (h : ∀ b ∈ l, b ≠ 10) : lines a l = [(a, l)] := by
  rw [lines_ne a hn, len_all h, List.drop_of_length_le (by omega), lines_nil]
  simp
/-- a line as it is put into the text: n of them in all -/
def piece (n : Nat) (op : Bool) (j : Nat) (l : List UInt8) : List UInt8 := l ++ (if j + 1 < n ∨ op = false ∨ l = [] then [10] else [])
def joined (n : Nat) (op : Bool) : Nat → List (List UInt8) → List UInt8
  | _, [] => []
  | j, l :: T => piece n op j l ++ joined n op (j + 1) T
theorem joined_snoc (n : Nat) (op : Bool) : ∀ (j : Nat) (T : List (List UInt8)) (l : List UInt8), joined n op j (T ++ [l]) = joined n op j T ++ piece n op (j + T.length) l
  | j, [], l => by simp [joined]
  | j, x :: T, l => by
    rw [List.cons_append, joined, joined_snoc n op (j + 1) T l, joined, List.append_assoc]
    simp [Nat.add_comm, Nat.add_left_comm]
theorem joined_lines (n : Nat) (op : Bool) : ∀ (T : List (List UInt8)) (j a : Nat), j + T.length = n → (∀ l ∈ T, ∀ b ∈ l, b ≠ 10) → (lines a (joined n op j T)).map (·.2) = T
  | [], j, a, _, _ => by rw [joined, lines_nil]; rfl
  | l :: T, j, a, hj, h => by
    have hl := h l (List.mem_cons_self ..)
    rw [joined]
    unfold piece
    by_cases hc : j + 1 < n ∨ op = false ∨ l = []
    · rw [if_pos hc, List.append_assoc, List.singleton_append, lines_piece a _ hl, List.map_cons, joined_lines n op T (j + 1) _ (by simp at hj; omega) (fun x hx => h x (List.mem_cons_of_mem _ hx))]
    · rw [if_neg hc]
      have ht : T = [] := by
        cases T with
        | nil => rfl
        | cons x T => simp at hj; omega
      subst ht
      rw [joined, List.append_nil, List.append_nil, lines_last a (fun e => hc (Or.inr (Or.inr e))) hl]
      rfl
theorem joined_len (n : Nat) (op : Bool) : ∀ (T : List (List UInt8)) (j : Nat), (joined n op j T).length ≤ (T.map fun l => l.length + 1).sum ∧ T.length ≤ (joined n op j T).length
  | [], j => by simp [joined]
  | l :: T, j => by
    have ih := joined_len n op T (j + 1)
    rw [joined, List.length_append, List.map_cons, List.sum_cons, List.length_cons]
    unfold piece
    rw [List.length_append]
    by_cases hc : j + 1 < n ∨ op = false ∨ l = []
    · rw [if_pos hc]; simp; omega
    · rw [if_neg hc]
      have : l.length ≠ 0 := fun e => hc (Or.inr (Or.inr (List.eq_nil_of_length_eq_zero e)))
      simp; omega
/-- all places lie in the text -/
theorem lines_in : ∀ (n : Nat) (a : Nat) (l : List UInt8), l.length ≤ n → ∀ p ∈ lines a l, p.1 < a + l.length
  | n, a, [], _, p, hp => by rw [lines_nil] at hp; cases hp
  | 0, a, x :: l, h, _, _ => by simp at h
  | n + 1, a, x :: l, h, p, hp => by
    rw [lines] at hp
    rcases List.mem_cons.1 hp with rfl | hp
    · simp
    · by_cases hd : (x :: l).drop (len (x :: l) + 1) = []
      · rw [hd, lines_nil] at hp; cases hp
      · have := lines_in n _ _ (by simp at h ⊢; omega) p hp
        have hl : 0 < ((x :: l).drop (len (x :: l) + 1)).length := List.length_pos_iff.2 hd
        rw [List.length_drop] at this hl
        omega
def under (x : Nat) (L : List (Nat × List UInt8)) : List (Nat × List UInt8) := L.filter fun p => decide (p.1 < x)
theorem under_parts {lo hi : Nat} (hle : lo ≤ hi) : ∀ (L : List (Nat × List UInt8)), L.Pairwise (fun p q => p.1 < q.1) → under hi L = under lo L ++ cut lo hi L ∧ ∃ s, L = under hi L ++ s
  | [], _ => ⟨rfl, [], rfl⟩
  | p :: L, h => by
    have h1 := List.pairwise_cons.1 h
    obtain ⟨ih, s, hs⟩ := under_parts hle L h1.2
    by_cases hp : p.1 < lo
    · have e1 : under lo (p :: L) = p :: under lo L := by unfold under; rw [List.filter_cons_of_pos (by simpa using hp)]
      have e2 : under hi (p :: L) = p :: under hi L := by unfold under; rw [List.filter_cons_of_pos (by simp; omega)]
      have e3 : cut lo hi (p :: L) = cut lo hi L := by unfold cut; rw [List.filter_cons_of_neg (by simp; omega)]
      rw [e1, e2, e3, ih]
      exact ⟨rfl, s, by conv => lhs; rw [hs, ih]
                        simp⟩
    · have z : under lo L = [] := by
        unfold under
        rw [List.filter_eq_nil_iff]
        intro q hq
        have := h1.1 q hq
        simp; omega
      have e1 : under lo (p :: L) = [] := by unfold under at z ⊢; rw [List.filter_cons_of_neg (by simpa using hp)]; exact z
      by_cases hq : p.1 < hi
      · have e2 : under hi (p :: L) = p :: under hi L := by unfold under; rw [List.filter_cons_of_pos (by simpa using hq)]
        have e3 : cut lo hi (p :: L) = p :: cut lo hi L := by unfold cut; rw [List.filter_cons_of_pos (by simp; omega)]
        rw [z, List.nil_append] at ih
        rw [e1, e2, e3, ih]
        exact ⟨rfl, s, by conv => lhs; rw [hs, ih]
                          simp⟩
      · have z2 : under hi L = [] := by
          unfold under
          rw [List.filter_eq_nil_iff]
          intro q hq2
          have := h1.1 q hq2
          simp; omega
        have e2 : under hi (p :: L) = [] := by unfold under at z2 ⊢; rw [List.filter_cons_of_neg (by simpa using hq)]; exact z2
        have e3 : cut lo hi (p :: L) = [] := by
          unfold cut
          rw [List.filter_eq_nil_iff]
          intro q hq2
          have : p.1 ≤ q.1 := by
            rcases List.mem_cons.1 hq2 with rfl | h
            · exact Nat.le_refl _
            · exact Nat.le_of_lt (h1.1 q h)
          simp; omega
        rw [e1, e2, e3]
        exact ⟨rfl, _, rfl⟩
/-- what stands at a place of a part stands in the whole -/
theorem part_at {lo hi : Nat} (hle : lo ≤ hi) {L : List (Nat × List UInt8)} (hL : L.Pairwise (fun p q => p.1 < q.1)) {j : Nat} {p : Nat × List UInt8} (h : (cut lo hi L)[j]? = some p) : L[(under lo L).length + j]? = some p ∧ lo ≤ p.1 ∧ p.1 < hi := by
  obtain ⟨h1, s, h2⟩ := under_parts hle L hL
  refine ⟨?_, ?_⟩
  · conv => lhs; arg 1; rw [h2, h1, List.append_assoc]
    rw [List.getElem?_append_right (by omega), Nat.add_sub_cancel_left, List.getElem?_append_left (List.getElem?_eq_some_iff.1 h).1]
    exact h
  · have hm := List.mem_of_getElem? h
    unfold cut at hm
    have := (List.mem_filter.1 hm).2
    simp at this
    omega
theorem under_len {lo hi : Nat} (hle : lo ≤ hi) {L : List (Nat × List UInt8)} (hL : L.Pairwise (fun p q => p.1 < q.1)) : (under hi L).length = (under lo L).length + (cut lo hi L).length := by
  rw [(under_parts hle L hL).1, List.length_append]
theorem under_zero (L : List (Nat × List UInt8)) : under 0 L = [] := by unfold under; rw [List.filter_eq_nil_iff]; intro q _; simp
theorem under_all {x : Nat} {L : List (Nat × List UInt8)} (h : ∀ p ∈ L, p.1 < x) : under x L = L := by unfold under; rw [List.filter_eq_self]; intro q hq; simpa using h q hq
end Go.Proofs.Ytmjmfjgigkiajaa.Ln
