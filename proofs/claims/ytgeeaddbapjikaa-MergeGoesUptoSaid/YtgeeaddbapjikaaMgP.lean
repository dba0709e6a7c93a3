/- Merging runs: the plain law. -/
import Derived.Test.YtgeeaddbapjikaaMg
namespace Go.Proofs.Ytgeeaddbapjikaa
open Go.RowKit Go.Proofs.Ytgeeaddbapjikaa.St
set_option linter.unusedVariables false
set_option linter.unusedSimpArgs false
namespace Mg
def act (R : Nat → Rn) (p : Nat → Nat) (i : Nat) : Prop := p i < (R i).ps.length
instance (R : Nat → Rn) (p : Nat → Nat) (i : Nat) : Decidable (act R p i) := inferInstanceAs (Decidable (_ < _))
/-- the cursors of the runs that are left -/
def curs (R : Nat → Rn) (N : Nat) (p : Nat → Nat) : List Cu := ((List.range N).filter fun i => decide (act R p i)).map fun i => (i, p i)
def pick (R : Nat → Rn) (p : Nat → Nat) (b : Option Nat) (i : Nat) : Option Nat :=
  if act R p i then match b with
    | none => some i
    | some j => if bl (key R (i, p i)) (key R (j, p j)) then some i else some j
  else b
def best (R : Nat → Rn) (p : Nat → Nat) (N : Nat) : Option Nat := (List.range N).foldl (pick R p) none
theorem best_succ (R : Nat → Rn) (p : Nat → Nat) (N : Nat) : best R p (N + 1) = pick R p (best R p N) N := by
  unfold best; rw [List.range_succ, List.foldl_append]; rfl
theorem best_none {R : Nat → Rn} {p : Nat → Nat} : ∀ {N : Nat}, best R p N = none → ∀ i, i < N → ¬ act R p i
  | 0, _, i, h => by omega
  | N + 1, h, i, hi => by
    rw [best_succ] at h
    unfold pick at h
    split at h
    · split at h
      · cases h
      · split at h <;> cases h
    · rename_i hn
      by_cases e : i = N
      · subst e; exact hn
      · exact best_none h i (by omega)
theorem best_some {R : Nat → Rn} {p : Nat → Nat} : ∀ {N b : Nat}, best R p N = some b → b < N ∧ act R p b ∧ ∀ i, i < N → act R p i → lt R (i, p i) (b, p b) = false
  | 0, b, h => by simp [best] at h
  | N + 1, b, h => by
    rw [best_succ] at h
    unfold pick at h
    by_cases ha : act R p N
    · rw [if_pos ha] at h
      cases hb : best R p N with
      | none =>
        rw [hb] at h
        cases h
        refine ⟨by omega, ha, fun i hi hai => ?_⟩
        by_cases e : i = N
        · subst e; exact (swo R).irr _
        · exact absurd hai (best_none hb i (by omega))
      | some j =>
        rw [hb] at h
        obtain ⟨h1, h2, h3⟩ := best_some hb
        simp only at h
        cases hl : bl (key R (N, p N)) (key R (j, p j))
        · rw [hl] at h
          cases h
          refine ⟨by omega, h2, fun i hi hai => ?_⟩
          by_cases e : i = N
          · subst e
            unfold lt
            rw [befB_eq, hl]
            simp; omega
          · exact h3 i (by omega) hai
        · rw [hl] at h
          cases h
          refine ⟨by omega, ha, fun i hi hai => ?_⟩
          by_cases e : i = N
          · subst e; exact (swo R).irr _
          · have hlt : lt R (N, p N) (j, p j) = true := by unfold lt; rw [befB_eq, hl]; rfl
            exact (swo R).trans ((swo R).asym hlt) (h3 i (by omega) hai)
    · rw [if_neg ha] at h
      obtain ⟨h1, h2, h3⟩ := best_some h
      refine ⟨by omega, h2, fun i hi hai => ?_⟩
      by_cases e : i = N
      · subst e; exact absurd hai ha
      · exact h3 i (by omega) hai
def bump (p : Nat → Nat) (i : Nat) : Nat → Nat := fun j => if j = i then p j + 1 else p j
/-- what the merged runs give from here on -/
def out (R : Nat → Rn) (N : Nat) : Nat → (Nat → Nat) → List Pr
  | 0, _ => []
  | f + 1, p => match best R p N with
    | none => []
    | some i => prAt R (i, p i) :: out R N f (bump p i)
/-- how many pairs are left -/
def todo (R : Nat → Rn) (p : Nat → Nat) (N : Nat) : Nat := ((List.range N).map fun i => (R i).ps.length - p i).sum
theorem todo_succ (R : Nat → Rn) (p : Nat → Nat) (N : Nat) : todo R p (N + 1) = todo R p N + ((R N).ps.length - p N) := by
  unfold todo; rw [List.range_succ, List.map_append, List.sum_append]; simp
theorem todo_same {R : Nat → Rn} {p : Nat → Nat} {i : Nat} : ∀ {N : Nat}, N ≤ i → todo R (bump p i) N = todo R p N
  | 0, _ => rfl
  | N + 1, h => by
    rw [todo_succ, todo_succ, todo_same (by omega)]
    unfold bump
    rw [if_neg (by omega)]
theorem todo_bump {R : Nat → Rn} {p : Nat → Nat} {i : Nat} (ha : act R p i) : ∀ {N : Nat}, i < N → todo R (bump p i) N + 1 = todo R p N
  | 0, h => by omega
  | N + 1, h => by
    rw [todo_succ, todo_succ]
    by_cases e : i = N
    · subst e
      rw [todo_same (Nat.le_refl _)]
      unfold act at ha
      unfold bump
      rw [if_pos rfl]
      omega
    · have := todo_bump ha (N := N) (by omega)
      have e2 : bump p i N = p N := by unfold bump; rw [if_neg (fun q => e q.symm)]
      rw [e2]
      omega
theorem todo_pos {R : Nat → Rn} {p : Nat → Nat} {i : Nat} (ha : act R p i) {N : Nat} (h : i < N) : 0 < todo R p N := by
  have := todo_bump ha h; omega
theorem out_none {R : Nat → Rn} {N : Nat} {p : Nat → Nat} (h : best R p N = none) (f : Nat) : out R N f p = [] := by
  cases f with
  | zero => rfl
  | succ f => unfold out; rw [h]
theorem out_some {R : Nat → Rn} {N : Nat} {p : Nat → Nat} {i : Nat} (h : best R p N = some i) : out R N (todo R p N) p = prAt R (i, p i) :: out R N (todo R (bump p i) N) (bump p i) := by
  obtain ⟨h1, h2, _⟩ := best_some h
  rw [← todo_bump h2 h1]
  conv => lhs; unfold out
  rw [h]
theorem out_len {R : Nat → Rn} {N : Nat} : ∀ {f : Nat} {p : Nat → Nat}, f = todo R p N → (out R N f p).length = todo R p N
  | 0, p, h => by rw [← h]; rfl
  | f + 1, p, h => by
    cases hb : best R p N with
    | none =>
      exfalso
      have : ∀ M, M ≤ N → todo R p M = 0 := by
        intro M
        induction M with
        | zero => intro _; rfl
        | succ M ih =>
          intro hM
          rw [todo_succ, ih (by omega)]
          have := best_none hb M (by omega)
          unfold act at this
          omega
      have := this N (Nat.le_refl _)
      omega
    | some i =>
      obtain ⟨h1, h2, _⟩ := best_some hb
      have h3 := todo_bump h2 h1
      unfold out
      rw [hb]
      simp only [List.length_cons]
      rw [out_len (by omega)]
      omega
theorem curs_mem {R : Nat → Rn} {N : Nat} {p : Nat → Nat} {c : Cu} : c ∈ curs R N p ↔ c.1 < N ∧ act R p c.1 ∧ c.2 = p c.1 := by
  unfold curs
  simp only [List.mem_map, List.mem_filter, List.mem_range, decide_eq_true_eq]
  constructor
  · rintro ⟨i, ⟨h1, h2⟩, rfl⟩; exact ⟨h1, h2, rfl⟩
  · rintro ⟨h1, h2, h3⟩; exact ⟨c.1, ⟨h1, h2⟩, by rw [← h3]⟩
/-- the heap's first is the one that is picked -/
theorem best_of {R : Nat → Rn} {N : Nat} {p : Nat → Nat} {L : List Cu} (hp : L.Perm (curs R N p)) {r : Cu} (hr : r ∈ L) (hm : ∀ c ∈ L, lt R c r = false) : best R p N = some r.1 ∧ r.2 = p r.1 ∧ r.1 < N ∧ act R p r.1 := by
  obtain ⟨h1, h2, h3⟩ := curs_mem.1 (hp.mem_iff.1 hr)
  refine ⟨?_, h3, h1, h2⟩
  cases hb : best R p N with
  | none => exact absurd h2 (best_none hb _ h1)
  | some b =>
    obtain ⟨b1, b2, b3⟩ := best_some hb
    have e1 := b3 r.1 h1 h2
    have e2 := hm (b, p b) (hp.mem_iff.2 (curs_mem.2 ⟨b1, b2, rfl⟩))
    have er : r = (r.1, p r.1) := Prod.ext rfl h3
    rw [er] at e2
    unfold lt at e1 e2
    rw [befB_eq] at e1 e2
    simp only [Bool.or_eq_false_iff, Bool.and_eq_false_iff, Bool.not_eq_eq_eq_not, Bool.not_false, decide_eq_false_iff_not] at e1 e2
    obtain ⟨a1, a2⟩ := e1
    obtain ⟨c1, c2⟩ := e2
    have a3 : ¬ ((r.1 : Int) < (b : Int)) := by
      rcases a2 with a2 | a2
      · rw [c1] at a2; cases a2
      · exact a2
    have c3 : ¬ ((b : Int) < (r.1 : Int)) := by
      rcases c2 with c2 | c2
      · rw [a1] at c2; cases c2
      · exact c2
    congr 1; omega
theorem curs_nil {R : Nat → Rn} {N : Nat} {p : Nat → Nat} (h : curs R N p = []) : best R p N = none := by
  cases hb : best R p N with
  | none => rfl
  | some b =>
    obtain ⟨b1, b2, _⟩ := best_some hb
    have : (b, p b) ∈ curs R N p := curs_mem.2 ⟨b1, b2, rfl⟩
    rw [h] at this; cases this
theorem curs_nodup (R : Nat → Rn) (N : Nat) (p : Nat → Nat) : (curs R N p).Nodup := by
  unfold curs
  refine List.Pairwise.map _ (fun a b h e => h (Prod.ext_iff.1 e).1) ((List.nodup_range).filter _)
theorem curs_succ (R : Nat → Rn) (N : Nat) (p : Nat → Nat) : curs R (N + 1) p = curs R N p ++ if act R p N then [(N, p N)] else [] := by
  unfold curs
  rw [List.range_succ, List.filter_append, List.map_append]
  congr 1
  by_cases h : act R p N
  · rw [if_pos h]; simp [h]
  · rw [if_neg h]; simp [h]
/-- the picked run's cursor, moved on -/
theorem curs_bump {R : Nat → Rn} {N : Nat} {p : Nat → Nat} {L' : List Cu} {i : Nat} (hp : ((i, p i) :: L').Perm (curs R N p)) (hi : i < N) :
    (if act R (bump p i) i then (i, p i + 1) :: L' else L').Perm (curs R N (bump p i)) := by
  have hnd : ((i, p i) :: L').Nodup := hp.nodup_iff.2 (curs_nodup R N p)
  have hmem : ∀ c, c ∈ L' ↔ c.1 < N ∧ act R p c.1 ∧ c.2 = p c.1 ∧ c.1 ≠ i := by
    intro c
    have h1 := hp.mem_iff (a := c)
    rw [curs_mem, List.mem_cons] at h1
    constructor
    · intro hc
      obtain ⟨a, b, d⟩ := h1.1 (.inr hc)
      refine ⟨a, b, d, fun e => ?_⟩
      have : c = (i, p i) := Prod.ext e (by rw [d, e])
      subst this
      exact (List.nodup_cons.1 hnd).1 hc
    · rintro ⟨a, b, d, e⟩
      rcases h1.2 ⟨a, b, d⟩ with h | h
      · rw [h] at e; exact absurd rfl e
      · exact h
  have hn2 : L'.Nodup := (List.nodup_cons.1 hnd).2
  have hbo : ∀ j, j ≠ i → bump p i j = p j := fun j h => by unfold bump; rw [if_neg h]
  have hbi : bump p i i = p i + 1 := by unfold bump; rw [if_pos rfl]
  split
  · rename_i ha
    refine (List.perm_ext_iff_of_nodup (List.nodup_cons.2 ⟨fun h => ((hmem _).1 h).2.2.2 rfl, hn2⟩) (curs_nodup _ _ _)).2 fun c => ?_
    rw [List.mem_cons, curs_mem, hmem]
    constructor
    · rintro (rfl | ⟨a, b, d, e⟩)
      · exact ⟨hi, ha, hbi.symm⟩
      · exact ⟨a, by unfold act at b ⊢; rw [hbo _ e]; exact b, by rw [hbo _ e]; exact d⟩
    · rintro ⟨a, b, d⟩
      by_cases e : c.1 = i
      · left; exact Prod.ext e (by rw [d, e, hbi])
      · right
        unfold act at b
        rw [hbo _ e] at b d
        exact ⟨a, b, d, e⟩
  · rename_i ha
    refine (List.perm_ext_iff_of_nodup hn2 (curs_nodup _ _ _)).2 fun c => ?_
    rw [curs_mem, hmem]
    constructor
    · rintro ⟨a, b, d, e⟩
      exact ⟨a, by unfold act at b ⊢; rw [hbo _ e]; exact b, by rw [hbo _ e]; exact d⟩
    · rintro ⟨a, b, d⟩
      have e : c.1 ≠ i := fun e => ha (by rw [e] at b; exact b)
      unfold act at b
      rw [hbo _ e] at b d
      exact ⟨a, b, d, e⟩
end Mg
end Go.Proofs.Ytgeeaddbapjikaa
