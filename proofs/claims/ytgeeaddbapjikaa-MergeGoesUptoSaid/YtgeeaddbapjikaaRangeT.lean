/- A range over an iterator that keeps state of its own in cells. -/
import Derived.Test.YtgeeaddbapjikaaMgAll
import Derived.RangeFuncFrom
namespace Go.Proofs.Ytgeeaddbapjikaa
open Go.RowKit Go.Shelf Go.Proofs.Ytgeeaddbapjikaa.St
set_option linter.unusedVariables false
set_option linter.unusedSimpArgs false
namespace Mg
/-- a step that turns, of what lay from base on, only the iterator's own and what is no cells -/
def StepO (base B : Nat) (W W' : World) : Prop := Fr W W' (fun j => (base ≤ j ∧ Mine W j) ∨ (B ≤ j ∧ ∃ o : Obj, W.heap[j]? = some o ∧ o.isCells = false))
def AbidesO {β : Type} (base B : Nat) (I : β → World → Prop) : Prop := ∀ s W W', I s W → StepO base B W W' → I s W'
/-- whatever is no cells lies as it lay -/
def KeepsO (W W' : World) : Prop := W.heap.size ≤ W'.heap.size ∧ ∀ (j : Nat) (o : Obj), W.heap[j]? = some o → o.isCells = false → W'.heap[j]? = some o
theorem not_mine {W : World} {j : Nat} {o : Obj} (h : W.heap[j]? = some o) (ho : o.isCells = false) : ¬ Mine W j := by
  rintro ⟨cur, t, r, hm, _⟩
  rw [h] at hm
  cases hm
  cases ho
theorem StepI.toO {base B : Nat} {W W' : World} (h : StepI base W W') : StepO base B W W' := Fr.mono h fun j _ e => .inl e
theorem StepO.put {base B : Nat} {W : World} {l : Nat} {o : Obj} (o' : Obj) (hl : B ≤ l) (h : W.heap[l]? = some o) (ho : o.isCells = false) : StepO base B W (W.putObj l o') :=
  ⟨rfl, rfl, rfl, by simp, fun j _ hs => World.putObj_heap_other (fun e => hs (by subst e; exact .inr ⟨hl, o, h, ho⟩))⟩
theorem StepO.new {base B : Nat} {W W' : World} (h : Below W.heap.size W W') : StepO base B W W' := ⟨h.os, h.tape, h.output, h.size, fun j hj _ => h.block j hj⟩
theorem Keeps.put {base : Nat} {W : World} {l : Nat} {o : Obj} (o' : Obj) (hl : base ≤ l) (h : W.heap[l]? = some o) (ho : o.isCells = false) : Keeps base W (W.putObj l o') :=
  ⟨rfl, rfl, rfl, by simp, fun j _ hs => World.putObj_heap_other (fun e => hs (by subst e; exact ⟨hl, not_mine h ho⟩))⟩
theorem Keeps.mine {base : Nat} {W W' : World} (h : Keeps base W W') {j : Nat} (hm : Mine W j) : Mine W' j := by
  obtain ⟨cur, t, r, h1, h2⟩ := hm
  exact ⟨cur, t, r, (Fr.block h j (Array.getElem?_eq_some_iff.1 h1).1 (fun e => e.2 ⟨cur, t, r, h1, h2⟩)).trans h1, h2⟩
theorem Keeps.then_ {base : Nat} {A B C : World} (h : Keeps base A B) (k : Keeps base B C) : Keeps base A C :=
  Fr.trans h k fun j _ e => ⟨e.1, fun hm => e.2 (h.mine hm)⟩
/-- how a round's body may be left -/
def postT (base : Nat) (I : List Pr → World → Prop) (Ix : Code → List Pr → World → Prop) (xs : List Pr) (W : World) : Exit → Act → World → Prop
  | .normal, _, W' => KeepsO W W' ∧ Keeps base W W' ∧ I xs W'
  | .ret, _, W' => KeepsO W W' ∧ Ix .ret xs W'
  | .exit id, _, W' => KeepsO W W' ∧ Ix (.exit id) xs W'
  | .goto t, _, W' => KeepsO W W' ∧ Ix (.goto t) xs W'
  | .panic _, _, _ => False
  | .outgrown, _, _ => False
/-- what an iterator owes -/
def Gives (n : Nat) (P : Program) (gf : FuncId) (lb : Array Value) (base : Nat) (S Sp : List Pr → Prop) (N : Nat) (w : World) : Prop :=
  ∀ (l : Nat) (J Jx : List Pr → World → Prop) (W : World), Below w.heap.size w W → Abides base J → Abides base Jx →
    (∀ pre x W1, J pre W1 → pre.length < N → YieldAt Fence.wide (n - 1) P l #[pcells x] W1 fun e W' =>
      (e = .returned (.bool true) ∧ J (pre ++ [x]) W' ∧ Keeps base W1 W') ∨ (e = .returned (.bool false) ∧ Jx (pre ++ [x]) W')) → J [] W →
    CallsIn Fence.wide n P gf (#[.func (.yield l) #[] #[]] ++ lb) W fun e W' => (∃ v, e = .returned v) ∧ ((∃ xs, S xs ∧ J xs W') ∨ (∃ pre, Sp pre ∧ Jx pre W'))
theorem rangeT {P : Program} {n : Nat} {g : Operand} {ps : Array Tmp} {assign body : Code} {Q : Exit → Act → World → Prop} {a : Act} {w : World}
    {gf : Nat} {lb : Array Value} (hg : a.eval g = .func (.func gf) #[] lb) (eg : ∀ args w, (callFunc gf args).run P w = .ok (.enter gf args) w)
    {S Sp : List Pr → Prop} {N base : Nat} (hb : base ≤ w.heap.size) (hseq : Gives (n - 1) P gf lb base S Sp N w) (hps : ps.size = 1)
    (I : List Pr → World → Prop) (Ix : Code → List Pr → World → Prop) (hI : AbidesO base w.heap.size I) (hIx : ∀ c, AbidesO base w.heap.size (Ix c)) (h0 : I [] w)
    (Ax : Pr → Act → World → Prop) (hAx : ∀ x a', AbidesO base w.heap.size (fun (_ : Unit) W => Ax x a' W))
    (hassign : ∀ (l : Nat) (pre : List Pr) (x : Pr) (W : World) (K : Act → World → Prop), I pre W → W.heap[l]? ≠ none →
      (∀ a' W', KeepsO W W' → Keeps base W W' → I pre W' → Ax x a' W' → K a' W') →
      assign.wpIn (Fence.wide.inRound l) (n - 1 - 1) P (Exit.then K (fun _ _ _ => False)) { tmps := (ps.zip #[pcells x]).foldl (fun t (p, v) => t.setIfInBounds p v) a.tmps, defers := [] } W)
    (hbody : ∀ (l : Nat) (pre : List Pr) (x : Pr) (a' : Act) (W : World), I pre W → Ax x a' W → pre.length < N → body.wpIn (Fence.wide.inRound l) (n - 1 - 1) P (postT base I Ix (pre ++ [x]) W) a' W)
    (hdone : ∀ (D : Nat) (xs : List Pr) (W : World), w.heap.size ≤ D → S xs → I xs W → W.heap[D]? = some (.deferred (some [])) → Q .normal { a with defers := { target := .collected D, args := #[] } :: a.defers } W)
    (hstop : ∀ (D : Nat) (c : Code) (pre : List Pr) (W : World), w.heap.size ≤ D → Sp pre → Ix c pre W → W.heap[D]? = some (.deferred (some [])) → c.wpIn Fence.wide n P Q { a with defers := { target := .collected D, args := #[] } :: a.defers } W) :
    (Code.rangeFunc g ps assign body).wpIn Fence.wide n P Q a w := by
  refine wpIn_rangeFunc ?_
  intro fn hfn
  obtain ⟨rc, hrc⟩ : ∃ rc : LoopState → Option Code → Loop, rc = fun st pe => { state := st, pending := pe, fn, tmps := a.tmps, params := ps, assign, body, defers := w.heap.size } := ⟨_, rfl⟩
  obtain ⟨W1, hW1⟩ : ∃ W1, (w.alloc (.deferred (some []))).alloc (.loop (rc .ready none)) = W1 := ⟨_, rfl⟩
  have hB1 : Below w.heap.size w W1 := by rw [← hW1]; exact ((Below.refl _ w).alloc (Nat.le_refl _) _).alloc (by simp) _
  have hL1 : W1.heap[w.heap.size + 1]? = some (.loop (rc .ready none)) := by
    rw [← hW1]; have := World.alloc_heap_new (w.alloc (.deferred (some []))) (.loop (rc .ready none)); rwa [World.size_alloc] at this
  have hK1 : W1.heap[w.heap.size]? = some (.deferred (some [])) := by
    rw [← hW1]; exact (Below.heap_alloc _ _ _ (by simp)).trans (World.alloc_heap_new w _)
  have hI1 : I [] W1 := hI _ _ _ h0 (StepO.new hB1)
  refine ⟨w.heap.size + 1, [{ target := .collected w.heap.size, args := #[] }], W1, { target := .fn (.func gf) lb, args := #[.func (.yield (w.heap.size + 1)) #[] #[]] }, W1, gf,
    #[.func (.yield (w.heap.size + 1)) #[] #[]] ++ lb, W1, ?_, ?_, ?_, ?_, fun h => by (cases h), ?_⟩
  · rw [← hW1, hrc]; exact run_enterLoop_outer _ _ _ _ _
  · simp only [resolve, hg]
    simp [go_sem]
  · intro f' hf'; trivial
  · simp [invoke, go_sem, eg]
  · have hlD : base ≤ w.heap.size + 1 := Nat.le_succ_of_le hb
    have keep : ∀ {A B : World} {j : Nat} {o : Obj}, StepI base A B → A.heap[j]? = some o → o.isCells = false → B.heap[j]? = some o := fun hs h ho =>
      (Fr.block hs _ (Array.getElem?_eq_some_iff.1 h).1 (fun e => not_mine h ho e.2)).trans h
    refine (hseq (w.heap.size + 1)
      (fun pre W => I pre W ∧ W.heap[w.heap.size + 1]? = some (.loop (rc .ready none)) ∧ W.heap[w.heap.size]? = some (.deferred (some [])))
      (fun pre W => ∃ c, Ix c pre W ∧ W.heap[w.heap.size + 1]? = some (.loop (rc .done (some c))) ∧ W.heap[w.heap.size]? = some (.deferred (some [])))
      W1 hB1
      (fun s A B hs hst => ⟨hI _ _ _ hs.1 hst.toO, keep hst hs.2.1 rfl, keep hst hs.2.2 rfl⟩)
      (fun s A B hs hst => by
        obtain ⟨c, hc, hl, hk⟩ := hs
        exact ⟨c, hIx c _ _ _ hc hst.toO, keep hst hl rfl, keep hst hk rfl⟩)
      ?_ ⟨hI1, hL1, hK1⟩).mono ?_
    · rintro pre x W ⟨hi, hl, hk⟩ hlen
      have hlt : w.heap.size + 1 < W.heap.size := (Array.getElem?_eq_some_iff.1 hl).1
      have hy := run_yield (P := P) (args := #[pcells x]) hl (by rw [hrc]; exact hps.symm)
      rw [hrc] at hy
      refine ⟨fn, _, assign, body, hy, roundIn_of_wpIn hfn (hassign _ pre x W _ hi (by rw [hl]; simp) ?_)⟩
      intro a' W' hko hkp hi' hax
      have hl' := hko.2 _ _ hl rfl
      have hk' := hko.2 _ _ hk rfl
      have hlt' : w.heap.size + 1 < W'.heap.size := (Array.getElem?_eq_some_iff.1 hl').1
      have hst2 : StepO base w.heap.size W' (W'.putObj (w.heap.size + 1) (.loop { rc .ready none with state := .busy })) := StepO.put _ (Nat.le_succ _) hl' rfl
      have hkp2 : Keeps base W' (W'.putObj (w.heap.size + 1) (.loop { rc .ready none with state := .busy })) := Keeps.put _ hlD hl' rfl
      have hl2 : (W'.putObj (w.heap.size + 1) (.loop { rc .ready none with state := .busy })).heap[w.heap.size + 1]? = some (.loop { rc .ready none with state := .busy }) := World.putObj_heap_same hlt'
      have hk2 : (W'.putObj (w.heap.size + 1) (.loop { rc .ready none with state := .busy })).heap[w.heap.size]? = some (.deferred (some [])) := (World.putObj_heap_other (by omega)).trans hk'
      refine ⟨_, run_beginRound hl' (by rw [hrc]), ?_⟩
      refine wpIn_mono (hbody _ pre x a' _ (hI _ _ _ hi' hst2) (hAx x a' () _ _ hax hst2) hlen) ?_
      have fin : ∀ (jump : Option Code) (W3 : World), KeepsO (W'.putObj (w.heap.size + 1) (.loop { rc .ready none with state := .busy })) W3 →
          (Instr.endRound (w.heap.size + 1) jump).run P W3 = .ok (.bool jump.isNone) (W3.putObj (w.heap.size + 1) (.loop (rc (if jump.isNone then .ready else .done) jump))) ∧
          W3.heap[w.heap.size + 1]? = some (.loop { rc .ready none with state := .busy }) ∧
          (W3.putObj (w.heap.size + 1) (.loop (rc (if jump.isNone then .ready else .done) jump))).heap[w.heap.size + 1]? = some (.loop (rc (if jump.isNone then .ready else .done) jump)) ∧
          (W3.putObj (w.heap.size + 1) (.loop (rc (if jump.isNone then .ready else .done) jump))).heap[w.heap.size]? = some (.deferred (some [])) := fun jump W3 hk3 => by
        have hl3 := hk3.2 _ _ hl2 rfl
        have := run_endRound (P := P) jump hl3
        rw [hrc] at this ⊢
        exact ⟨this, by rw [hrc] at hl3; exact hl3, World.putObj_heap_same (Array.getElem?_eq_some_iff.1 hl3).1, (World.putObj_heap_other (by omega)).trans (hk3.2 _ _ hk2 rfl)⟩
      rintro e a3 W3 hp
      cases e with
      | normal =>
        obtain ⟨hk3, hkp3, hi3⟩ := hp
        obtain ⟨hr, hl3, hl4, hk4⟩ := fin none W3 hk3
        exact ⟨_, _, hr, .inl ⟨rfl, ⟨hI _ _ _ hi3 (StepO.put _ (Nat.le_succ _) hl3 rfl), hl4, hk4⟩, ((hkp.then_ hkp2).then_ hkp3).then_ (Keeps.put _ hlD hl3 rfl)⟩⟩
      | ret =>
        obtain ⟨hk3, hi3⟩ := hp
        obtain ⟨hr, hl3, hl4, hk4⟩ := fin (some .ret) W3 hk3
        exact ⟨_, _, hr, .inr ⟨rfl, .ret, hIx _ _ _ _ hi3 (StepO.put _ (Nat.le_succ _) hl3 rfl), hl4, hk4⟩⟩
      | exit id =>
        obtain ⟨hk3, hi3⟩ := hp
        obtain ⟨hr, hl3, hl4, hk4⟩ := fin (some (.exit id)) W3 hk3
        exact ⟨_, _, hr, .inr ⟨rfl, .exit id, hIx _ _ _ _ hi3 (StepO.put _ (Nat.le_succ _) hl3 rfl), hl4, hk4⟩⟩
      | goto t =>
        obtain ⟨hk3, hi3⟩ := hp
        obtain ⟨hr, hl3, hl4, hk4⟩ := fin (some (.goto t)) W3 hk3
        exact ⟨_, _, hr, .inr ⟨rfl, .goto t, hIx _ _ _ _ hi3 (StepO.put _ (Nat.le_succ _) hl3 rfl), hl4, hk4⟩⟩
      | panic ch => exact hp.elim
      | outgrown => exact hp.elim
    · rintro e W2 ⟨⟨v, rfl⟩, (⟨xs, hS, hi, hl, hk⟩ | ⟨pre, hSp, c, hi, hl, hk⟩)⟩
      · exact ⟨none, _, by have := run_endLoop (P := P) hl (by rw [hrc]; simp); rw [hrc] at this; exact this, hdone _ xs _ (Nat.le_refl _) hS (hI _ _ _ hi (StepO.put _ (Nat.le_succ _) hl rfl)) ((World.putObj_heap_other (by omega)).trans hk)⟩
      · exact ⟨some c, _, by have := run_endLoop (P := P) hl (by rw [hrc]; simp); rw [hrc] at this; exact this, hstop _ c pre _ (Nat.le_refl _) hSp (hIx c _ _ _ hi (StepO.put _ (Nat.le_succ _) hl rfl)) ((World.putObj_heap_other (by omega)).trans hk)⟩
end Mg
end Go.Proofs.Ytgeeaddbapjikaa
