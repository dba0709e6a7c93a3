/- A heap in a list: the plain law. -/
import Derived.Test.YtgeeaddbapjikaaPSort
namespace Go.Proofs.Ytgeeaddbapjikaa
set_option linter.unusedVariables false
set_option linter.unusedSimpArgs false
namespace Hp
open Go.Proofs.Ytgeeaddbapjikaa.St
variable {α : Type} {lt : α → α → Bool}
def HeapE (lt : α → α → Bool) (l : List α) : Prop := ∀ j x y, 0 < j → l[j]? = some x → l[(j - 1) / 2]? = some y → lt x y = false
structure Up (lt : α → α → Bool) (l : List α) (i : Nat) : Prop where
  a : ∀ j x y, 0 < j → j ≠ i → l[j]? = some x → l[(j - 1) / 2]? = some y → lt x y = false
  b : ∀ j x y, 0 < j → 0 < i → (j - 1) / 2 = i → l[j]? = some x → l[(i - 1) / 2]? = some y → lt x y = false
structure Dn (lt : α → α → Bool) (l : List α) (i : Nat) : Prop where
  a : ∀ j x y, 0 < j → (j - 1) / 2 ≠ i → l[j]? = some x → l[(j - 1) / 2]? = some y → lt x y = false
  b : ∀ j x y, 0 < j → 0 < i → (j - 1) / 2 = i → l[j]? = some x → l[(i - 1) / 2]? = some y → lt x y = false
/-- l with what stands at i and at p exchanged (x stood at i, y at p) -/
def sw (l : List α) (i p : Nat) (x y : α) : List α := (l.set i y).set p x
theorem sw_len (l : List α) (i p : Nat) (x y : α) : (sw l i p x y).length = l.length := by simp [sw]
theorem sw_get {l : List α} {i p : Nat} {x y : α} (hi : l[i]? = some x) (hp : l[p]? = some y) (k : Nat) : (sw l i p x y)[k]? = if k = p then some x else if k = i then some y else l[k]? := by
  have h1 := (List.getElem?_eq_some_iff.1 hi).1
  have h2 := (List.getElem?_eq_some_iff.1 hp).1
  unfold sw
  by_cases e : k = p
  · subst e
    rw [if_pos rfl, List.getElem?_set_self (by simpa using h2)]
  · rw [if_neg e, List.getElem?_set_ne (fun q => e q.symm)]
    by_cases e2 : k = i
    · subst e2
      rw [if_pos rfl, List.getElem?_set_self h1]
    · rw [if_neg e2, List.getElem?_set_ne (fun q => e2 q.symm)]
theorem Up.step (S : Swo lt) {l : List α} {i : Nat} (h : Up lt l i) (h0 : 0 < i) {x y : α} (hx : l[i]? = some x) (hy : l[(i - 1) / 2]? = some y) (hl : lt x y = true) : Up lt (sw l i ((i - 1) / 2) x y) ((i - 1) / 2) := by
  have hg := sw_get hx hy
  generalize hp : (i - 1) / 2 = p at *
  have hpi : p < i := by omega
  have hyx := S.asym hl
  constructor
  · intro j u v hj hjp hu hv
    rw [hg] at hu hv
    rw [if_neg hjp] at hu
    by_cases hji : j = i
    · subst hji
      rw [if_pos rfl] at hu
      rw [hp, if_pos rfl] at hv
      cases hu; cases hv
      exact hyx
    · rw [if_neg hji] at hu
      by_cases hqp : (j - 1) / 2 = p
      · rw [if_pos hqp] at hv
        cases hv
        exact S.trans hyx (h.a j u y hj hji hu (by rw [hqp]; exact hy))
      · rw [if_neg hqp] at hv
        by_cases hqi : (j - 1) / 2 = i
        · rw [if_pos hqi] at hv
          cases hv
          exact h.b j u _ hj h0 hqi hu (by rw [hp]; exact hy)
        · rw [if_neg hqi] at hv
          exact h.a j u v hj hji hu hv
  · intro j u v hj hp0 hjp hu hv
    rw [hg] at hu hv
    rw [if_neg (by omega), if_neg (by omega)] at hv
    rw [if_neg (by omega)] at hu
    have h2 : lt y v = false := h.a p y v hp0 (by omega) hy hv
    by_cases hji : j = i
    · rw [if_pos hji] at hu
      cases hu
      exact h2
    · rw [if_neg hji] at hu
      exact S.trans h2 (h.a j u y hj hji hu (by rw [hjp]; exact hy))
theorem Up.done {l : List α} {i : Nat} (h : Up lt l i) (hd : i = 0 ∨ ∀ x y, l[i]? = some x → l[(i - 1) / 2]? = some y → lt x y = false) : HeapE lt l := by
  intro j x y hj hx hy
  by_cases e : j = i
  · subst e
    rcases hd with rfl | hd
    · omega
    · exact hd x y hx hy
  · exact h.a j x y hj e hx hy
theorem Up.push {l : List α} (h : HeapE lt l) (x : α) : Up lt (l ++ [x]) l.length := by
  constructor
  · intro j u v hj hne hu hv
    have h1 := (List.getElem?_eq_some_iff.1 hu).1
    simp at h1
    rw [List.getElem?_append_left (by omega)] at hu hv
    exact h j u v hj hu hv
  · intro j u v hj h0 hq hu hv
    have h1 := (List.getElem?_eq_some_iff.1 hu).1
    simp at h1
    omega
theorem Dn.step (S : Swo lt) {l : List α} {i m : Nat} (h : Dn lt l i) (hm0 : 0 < m) (hm : (m - 1) / 2 = i) {x y : α} (hx : l[i]? = some x) (hy : l[m]? = some y) (hl : lt y x = true)
    (hs : ∀ j u, 0 < j → (j - 1) / 2 = i → l[j]? = some u → lt u y = false) : Dn lt (sw l i m x y) m := by
  have hg := sw_get hx hy
  have him : i < m := by omega
  have hxy := S.asym hl
  constructor
  · intro j u v hj hq hu hv
    rw [hg] at hu hv
    rw [if_neg hq] at hv
    by_cases hjm : j = m
    · subst hjm
      rw [if_pos rfl] at hu
      rw [if_pos hm] at hv
      cases hu; cases hv
      exact hxy
    · rw [if_neg hjm] at hu
      by_cases hji : j = i
      · subst hji
        rw [if_pos rfl] at hu
        rw [if_neg (by omega)] at hv
        cases hu
        exact h.b m _ v hm0 hj hm hy hv
      · rw [if_neg hji] at hu
        by_cases hqi : (j - 1) / 2 = i
        · rw [if_pos hqi] at hv
          cases hv
          exact hs j u hj hqi hu
        · rw [if_neg hqi] at hv
          exact h.a j u v hj hqi hu hv
  · intro j u v hj _ hq hu hv
    rw [hg] at hu hv
    rw [if_neg (by omega), if_neg (by omega)] at hu
    rw [hm, if_neg (by omega), if_pos rfl] at hv
    cases hv
    exact h.a j u _ hj (by omega) hu (by rw [hq]; exact hy)
theorem Dn.done {l : List α} {i : Nat} (h : Dn lt l i) (hd : ∀ j u v, 0 < j → (j - 1) / 2 = i → l[j]? = some u → l[i]? = some v → lt u v = false) : HeapE lt l := by
  intro j x y hj hx hy
  by_cases e : (j - 1) / 2 = i
  · exact hd j x y hj e hx (e ▸ hy)
  · exact h.a j x y hj e hx hy
theorem Dn.start {l : List α} (h : HeapE lt l) (z : α) (n : Nat) : Dn lt ((l.set 0 z).take n) 0 := by
  have key : ∀ j u, 0 < j → ((l.set 0 z).take n)[j]? = some u → l[j]? = some u := fun j u hj hu => by
    have h1 := (List.getElem?_eq_some_iff.1 hu).1
    rw [List.length_take] at h1
    rw [List.getElem?_take_of_lt (by omega), List.getElem?_set_ne (by omega)] at hu
    exact hu
  constructor
  · intro j u v hj hq hu hv
    exact h j u v hj (key j u hj hu) (key _ v (by omega) hv)
  · intro j u v hj h0
    omega
theorem HeapE.root (S : Swo lt) {l : List α} (h : HeapE lt l) {r : α} (hr : l[0]? = some r) : ∀ (j : Nat) (x : α), l[j]? = some x → lt x r = false := by
  intro j
  induction j using Nat.strongRecOn with
  | ind j ih =>
    intro x hx
    by_cases h0 : j = 0
    · subst h0
      rw [hr] at hx; cases hx
      exact S.irr _
    · have hq : (j - 1) / 2 < j := by omega
      have hlen := (List.getElem?_eq_some_iff.1 hx).1
      have hy : l[(j - 1) / 2]? = some (l[(j - 1) / 2]'(by omega)) := List.getElem?_eq_getElem _
      exact S.trans (ih _ hq _ hy) (h j x _ (by omega) hx hy)
theorem sw_perm [DecidableEq α] {l : List α} {i p : Nat} {x y : α} (hi : l[i]? = some x) (hp : l[p]? = some y) : (sw l i p x y).Perm l := by
  have h1 := (List.getElem?_eq_some_iff.1 hi).1
  have h2 := (List.getElem?_eq_some_iff.1 hp).1
  have e1 := (List.getElem?_eq_some_iff.1 hi).2
  have e2 := (List.getElem?_eq_some_iff.1 hp).2
  rw [List.perm_iff_count]
  intro a
  unfold sw
  rw [List.count_set (by simpa using h2), List.count_set h1]
  have c1 : 0 < l.count x := List.count_pos_iff.2 (e1 ▸ List.getElem_mem _)
  have c2 : 0 < l.count y := List.count_pos_iff.2 (e2 ▸ List.getElem_mem _)
  by_cases hip : i = p
  · subst hip
    have : x = y := e1.symm.trans e2
    subst this
    rw [e1]
    simp only [List.getElem_set_self]
    split
    · rename_i hxa
      have : x = a := by simpa using hxa
      subst this
      omega
    · omega
  · have e3 : (l.set i y)[p]'(by simpa using h2) = y := by rw [List.getElem_set_ne hip]; exact e2
    rw [e1, e3]
    by_cases hx : x = a
    · subst hx
      by_cases hy : y = x
      · subst hy; simp; omega
      · simp [hy]; omega
    · by_cases hy : y = a
      · subst hy; simp [hx]
      · simp [hx, hy]
/-- taking the first out, the last put in its place -/
theorem pop_perm {l : List α} {r z : α} {n : Nat} (hr : l[0]? = some r) (hn : l.length = n + 1) (hz : l[n]? = some z) : l.Perm (r :: (l.set 0 z).take n) := by
  cases l with
  | nil => simp at hn
  | cons q t =>
    simp at hr hn
    subst hr
    refine List.Perm.cons _ ?_
    cases n with
    | zero =>
      have : t = [] := List.eq_nil_of_length_eq_zero hn
      subst this; simp
    | succ n =>
      rw [List.getElem?_cons_succ] at hz
      have h1 : t = t.take n ++ [z] := by
        have h2 := (List.getElem?_eq_some_iff.1 hz).2
        conv => lhs; rw [← List.take_append_drop n t]
        congr 1
        rw [List.drop_eq_getElem_cons (by omega), h2, List.drop_of_length_le (by omega)]
      simp only [List.set_cons_zero, List.take_succ_cons]
      conv => lhs; rw [h1]
      exact List.perm_append_singleton z _
end Hp
end Go.Proofs.Ytgeeaddbapjikaa
