/- Cursors into runs, and the heap that holds them. -/
import Derived.Test.YtgeeaddbapjikaaBefore
import Derived.Test.YtgeeaddbapjikaaHeapP
import Derived.Test.YtgeeaddbapjikaaRecs
namespace Go.Proofs.Ytgeeaddbapjikaa
open Go.RowKit Go.Proofs.Ytgeeaddbapjikaa.St
set_option linter.unusedVariables false
set_option linter.unusedSimpArgs false
namespace Mg
abbrev Pr := ByteArray × ByteArray
structure Rn where
  b : Nat
  o : Nat
  cap : Nat
  ps : List Pr
abbrev Cu := Nat × Nat
def prAt (R : Nat → Rn) (c : Cu) : Pr := (R c.1).ps[c.2]?.getD (⟨#[]⟩, ⟨#[]⟩)
def key (R : Nat → Rn) (c : Cu) : ByteArray := (prAt R c).1
def lt (R : Nat → Rn) (x y : Cu) : Bool := befB (key R x) (key R y) (x.1 : Int) (y.1 : Int)
def okC (R : Nat → Rn) (c : Cu) : Prop := c.2 < (R c.1).ps.length
def left (R : Nat → Rn) (c : Cu) : Value := .slice (some ⟨(R c.1).b, (R c.1).o + c.2 * 2, none⟩) ((R c.1).ps.length - c.2) ((R c.1).cap - c.2)
def enc (R : Nat → Rn) (c : Cu) : List Value := [.int .i64 c.1, left R c]
structure RunsAt (w : World) (base : Nat) (R : Nat → Rn) : Prop where
  lt : ∀ i, 0 < (R i).ps.length → (R i).b < base
  cells : ∀ i k p, (R i).ps[k]? = some p → w.cell? ⟨(R i).b, (R i).o + k * 2, none⟩ = some (.string p.1) ∧ w.cell? ⟨(R i).b, (R i).o + k * 2 + 1, none⟩ = some (.string p.2)
  cap : ∀ i, (R i).ps.length ≤ (R i).cap
theorem RunsAt.keep {w w' : World} {base : Nat} {R : Nat → Rn} (h : RunsAt w base R) (hb : ∀ j, j < base → w'.heap[j]? = w.heap[j]?) : RunsAt w' base R := by
  refine ⟨h.lt, fun i k p hp => ?_, h.cap⟩
  have hl : 0 < (R i).ps.length := by have := (List.getElem?_eq_some_iff.1 hp).1; omega
  have := h.cells i k p hp
  have hh := hb _ (h.lt i hl)
  exact ⟨(World.cell?_of_block (a := ⟨(R i).b, (R i).o + k * 2, none⟩) hh).trans this.1, (World.cell?_of_block (a := ⟨(R i).b, (R i).o + k * 2 + 1, none⟩) hh).trans this.2⟩
theorem RunsAt.below {w w' : World} {base : Nat} {R : Nat → Rn} (h : RunsAt w base R) (hb : Below base w w') : RunsAt w' base R := h.keep hb.block
theorem swo (R : Nat → Rn) : Swo (lt R) := by
  constructor
  · intro x y h
    unfold lt at *
    rw [befB_eq] at *
    cases h1 : bl (key R x) (key R y)
    · rw [h1] at h
      cases h2 : bl (key R y) (key R x)
      · rw [h2] at h
        simp at h ⊢
        omega
      · rw [h2] at h; simp at h
    · rw [bl_asym h1]; simp
  · intro x y z hyx hzy
    unfold lt at *
    rw [befB_eq] at *
    simp only [Bool.or_eq_false_iff, Bool.and_eq_false_iff, Bool.not_eq_eq_eq_not, Bool.not_false, decide_eq_false_iff_not] at *
    obtain ⟨a1, a2⟩ := hyx
    obtain ⟨b1, b2⟩ := hzy
    cases h1 : bl (key R z) (key R x)
    · refine ⟨rfl, ?_⟩
      cases h2 : bl (key R x) (key R z)
      · right
        have ezx := bl_eq h1 h2
        cases h3 : bl (key R x) (key R y)
        · have exy := bl_eq h3 a1
          rcases a2 with a2 | a2
          · rw [h3] at a2; cases a2
          · rcases b2 with b2 | b2
            · rw [ezx, ← exy, ← ezx] at b2
              rw [← exy, ezx, bl_irr] at b1
              have : bl (key R z) (key R z) = true := b2
              rw [bl_irr] at this; cases this
            · omega
        · rw [← ezx] at h3
          rw [h3] at b1; cases b1
      · left; rfl
    · exfalso
      cases h3 : bl (key R y) (key R z)
      · have := bl_eq b1 h3
        rw [← this, h1] at a1; cases a1
      · rw [bl_tr h3 h1] at a1; cases a1
theorem less_c (R : Nat → Rn) (base : Nat) (w : World) (hR : RunsAt w base R) (x y : Cu) (hx : okC R x) (hy : okC R y) :
    Calls Try.prog 21 #[.agg #[.int .i64 x.1, left R x], .agg #[.int .i64 y.1, left R y]] w fun e w' => e = .returned (.bool (lt R x y)) ∧ Below w.heap.size w w' := by
  have ex : (R x.1).ps[x.2]? = some (prAt R x) := by unfold prAt; rw [List.getElem?_eq_getElem hx]; rfl
  have ey : (R y.1).ps[y.2]? = some (prAt R y) := by unfold prAt; rw [List.getElem?_eq_getElem hy]; rfl
  exact before_c x.1 y.1 _ _ _ _ _ _ _ _ (key R x) (key R y) w (hR.cells _ _ _ ex).1 (hR.cells _ _ _ ey).1 (by unfold okC at hx; omega) (by unfold okC at hy; omega)
/-- the heap at block hb -/
structure HeapAt (w : World) (base hb : Nat) (R : Nat → Rn) (v : Value) (L : List Cu) : Prop where
  blk : Blk w hb [v, .func (.func 21) #[] #[]] 63
  recs : Recs w base 60 2 v (L.map (enc R))
  base : base ≤ hb
  ok : ∀ c ∈ L, okC R c
theorem HeapAt.ne {w : World} {base hb : Nat} {R : Nat → Rn} {v : Value} {L : List Cu} (h : HeapAt w base hb R v L) : v.ownBlock ≠ some hb := by
  rcases h.recs.own.2 with ⟨rfl, _⟩ | ⟨g, cap, cur, rfl, _, hg, _⟩
  · simp [Value.ownBlock]
  · intro e
    have : g = hb := by simpa [Value.ownBlock] using e
    subst this
    have := h.blk.symm.trans hg
    simp at this
theorem HeapAt.fr {w w' : World} {base hb : Nat} {R : Nat → Rn} {v : Value} {L : List Cu} (h : HeapAt w base hb R v L) {S : Nat → Prop} (hf : Fr w w' S) (h1 : ¬ S hb) (h2 : ∀ k, v.ownBlock = some k → ¬ S k) : HeapAt w' base hb R v L :=
  ⟨h.blk.fr hf h1, h.recs.fr hf h2, h.base, h.ok⟩
theorem HeapAt.lt {w : World} {base hb : Nat} {R : Nat → Rn} {v : Value} {L : List Cu} (h : HeapAt w base hb R v L) : hb < w.heap.size ∧ ∀ k, v.ownBlock = some k → k < w.heap.size ∧ base ≤ k :=
  ⟨h.blk.lt, fun k e => by have := h.recs.own.lt k e; exact ⟨this.2, this.1⟩⟩
theorem HeapAt.below {w w' : World} {base hb : Nat} {R : Nat → Rn} {v : Value} {L : List Cu} (h : HeapAt w base hb R v L) (hB : Below w.heap.size w w') : HeapAt w' base hb R v L :=
  h.fr (Fr.of_below (S := fun j => w.heap.size ≤ j) hB fun _ e _ => e) (by have := h.lt.1; omega) (fun k e => by have := (h.lt.2 k e).1; omega)
/-- exchanging two -/
theorem HeapAt.swap {w : World} {base hb g n cap : Nat} {R : Nat → Rn} {L : List Cu} (h : HeapAt w base hb R (.slice (some ⟨g, 0, none⟩) n cap) L) {i p : Nat} {x y : Cu} (hi : L[i]? = some x) (hp : L[p]? = some y) :
    HeapAt ((((w.setCell ⟨g, i * 2, none⟩ (.int .i64 y.1)).setCell ⟨g, i * 2 + 1, none⟩ (left R y)).setCell ⟨g, p * 2, none⟩ (.int .i64 x.1)).setCell ⟨g, p * 2 + 1, none⟩ (left R x)) base hb R (.slice (some ⟨g, 0, none⟩) n cap) (Hp.sw L i p x y) := by
  have hne := h.ne
  have hgb : hb ≠ g := fun e => hne (by rw [e]; rfl)
  have h1 := h.recs.put2 (i := i) (r := enc R x) (by simp [hi]) (.int .i64 y.1) (left R y)
  have hl : i < L.length := (List.getElem?_eq_some_iff.1 hi).1
  have hp' : ((L.set i y).map (enc R))[p]? = some (enc R ((L.set i y)[p]'(by rw [List.length_set]; exact (List.getElem?_eq_some_iff.1 hp).1))) := by
    rw [List.getElem?_map, List.getElem?_eq_getElem]; rfl
  have e1 : (L.map (enc R)).set i [.int .i64 y.1, left R y] = (L.set i y).map (enc R) := by rw [List.map_set]; rfl
  rw [e1] at h1
  have h2 := h1.put2 hp' (.int .i64 x.1) (left R x)
  have e2 : ((L.set i y).map (enc R)).set p [.int .i64 x.1, left R x] = (Hp.sw L i p x y).map (enc R) := by unfold Hp.sw; rw [List.map_set (l := L.set i y)]; rfl
  rw [e2] at h2
  refine ⟨((((h.blk.other _ _ hgb).other _ _ hgb).other _ _ hgb).other _ _ hgb), h2, h.base, fun c hc => ?_⟩
  unfold Hp.sw at hc
  rcases List.mem_or_eq_of_mem_set hc with hc | rfl
  · rcases List.mem_or_eq_of_mem_set hc with hc | rfl
    · exact h.ok c hc
    · exact h.ok _ (List.mem_of_getElem? hp)
  · exact h.ok _ (List.mem_of_getElem? hi)
theorem fr_swap (w : World) (g a b c d : Nat) (x y z u : Value) : Fr w ((((w.setCell ⟨g, a, none⟩ x).setCell ⟨g, b, none⟩ y).setCell ⟨g, c, none⟩ z).setCell ⟨g, d, none⟩ u) (fun j => j = g) :=
  ((((Fr.refl w (fun j => j = g)).setCell ⟨g, a, none⟩ x fun _ => rfl).setCell ⟨g, b, none⟩ y fun _ => rfl).setCell ⟨g, c, none⟩ z fun _ => rfl).setCell ⟨g, d, none⟩ u fun _ => rfl
end Mg
end Go.Proofs.Ytgeeaddbapjikaa
