/- A net, a caller and a desk in one world. -/
import Derived.Test.YtiaknanflgdmoaaNetMy
import Derived.Test.YtiaknanflgdmoaaRpcCaller
namespace Go.Proofs.Ytiaknanflgdmoaa
open Go.RowKit Go.Maps
set_option linter.unusedVariables false
set_option linter.unusedSimpArgs false
theorem own_heapA {w : World} {base : Nat} {e : TypeId} {size n : Nat} {v : Value} {xs : List Value} (h : w.ownsRow base e size v n xs) {k : Nat} (hk : v.ownBlock = some k) : ∃ cur, w.heap[k]? = some (.cells cur e (0, 0)) := by
  rcases h.2 with ⟨rfl, _⟩ | ⟨g, cap, cur, rfl, _, hg, _⟩
  · cases hk
  · cases hk; exact ⟨cur, hg⟩
theorem NetIs.off {w : World} {b k n : Nat} {v : Value} {s : NS} (h : NetIs w b k n v s) {t : TypeId} (ht : t ≠ 55) (ht2 : t ≠ 39) {g : Nat} {cs : List Value} (hB : Blk w g cs t) : ¬ (g = b ∨ g = k ∨ v.ownBlock = some g) := by
  rintro (rfl | rfl | e)
  · have := h.at_.blk.symm.trans hB
    simp at this; exact ht this.2.symm
  · obtain ⟨D, ⟨es, cl, hb, _⟩, _⟩ := h.at_.map
    rw [hB] at hb; cases hb
  · obtain ⟨cur, hg⟩ := own_heapA h.at_.recs.own e
    rw [hB] at hg; simp at hg; exact ht2 hg.2
theorem NetIs.offM {w : World} {b k n : Nat} {v : Value} {s : NS} (h : NetIs w b k n v s) {g : Nat} (hk : g ≠ k) {es : Array MapEntry} {cl : Nat} (hB : w.heap[g]? = some (.map es cl)) : ¬ (g = b ∨ g = k ∨ v.ownBlock = some g) := by
  rintro (rfl | rfl | e)
  · rw [h.at_.blk] at hB; cases hB
  · exact hk rfl
  · obtain ⟨cur, hg⟩ := own_heapA h.at_.recs.own e
    rw [hg] at hB; cases hB
theorem DeskAt.map_ {w : World} {b n : Nat} {mv : Value} {f : View} (h : DeskAt w b mv n f) {j : Nat} (e : mv = .map (some j)) : ∃ es cl, w.heap[j]? = some (.map es cl) := by
  rcases h.map with ⟨e', _⟩ | ⟨j', e', _, ⟨D, ⟨es, cl, hb, _⟩, _⟩⟩
  · rw [e] at e'; cases e'
  · rw [e] at e'; cases e'; exact ⟨es, cl, hb⟩
theorem DeskAt.offB {w : World} {b n : Nat} {mv : Value} {f : View} (h : DeskAt w b mv n f) {t : TypeId} (ht : t ≠ 29) {g : Nat} {cur : Array Value} (hB : w.heap[g]? = some (.cells cur t (0, 0))) : ¬ (g = b ∨ mv = .map (some g)) := by
  rintro (rfl | e)
  · have := h.blk.symm.trans hB
    simp at this; exact ht this.2.symm
  · obtain ⟨es, cl, hb⟩ := h.map_ e
    rw [hB] at hb; cases hb
structure Trio (W w : World) (b k : Nat) (v : Value) (s : NS) (bc : Nat) (cl : Cl) (bd : Nat) (mv : Value) (nd : Nat) (f : View) : Prop where
  my : My W w b k 0 v s
  ca : CallerAt w bc cl
  de : DeskAt w bd mv nd f
  hbc : W.heap.size ≤ bc
  hbd : W.heap.size ≤ bd
  hmv : ∀ j, mv = .map (some j) → W.heap.size ≤ j ∧ j ≠ k
section
variable {W w w' : World} {b k : Nat} {v : Value} {s : NS} {bc : Nat} {cl : Cl} {bd : Nat} {mv : Value} {nd : Nat} {f : View}
theorem Trio.net (h : Trio W w b k v s bc cl bd mv nd f) {v' : Value} {s' : NS} (m : My W w' b k 0 v' s') (r : NetR w b k v w' v') : Trio W w' b k v' s' bc cl bd mv nd f :=
  ⟨m, h.ca.fr r.fr (h.my.is.off (by decide) (by decide) h.ca), h.de.fr r.fr (h.my.is.off (by decide) (by decide) h.de.blk) fun j e => by obtain ⟨es, c, hb⟩ := h.de.map_ e; exact h.my.is.offM (h.hmv j e).2 hb, h.hbc, h.hbd, h.hmv⟩
theorem Trio.caller (h : Trio W w b k v s bc cl bd mv nd f) {cl' : Cl} (m : CallerTo w bc cl' w') : Trio W w' b k v s bc cl' bd mv nd f :=
  ⟨h.my.other m.2 h.hbc (fun e => h.my.is.off (by decide) (by decide) h.ca (.inl e)) (fun e => h.my.is.off (by decide) (by decide) h.ca (.inr (.inl e))) (fun e => h.my.is.off (by decide) (by decide) h.ca (.inr (.inr e))), m.1,
    h.de.fr m.2 (fun e => h.de.offB (t := 58) (by decide) h.ca (.inl e.symm)) (fun j e e' => h.de.offB (t := 58) (by decide) h.ca (.inr (e' ▸ e))), h.hbc, h.hbd, h.hmv⟩
theorem Trio.desk (h : Trio W w b k v s bc cl bd mv nd f) {mv' : Value} {nd' : Nat} {f' : View} (d : DeskAt w' bd mv' nd' f') (r : DeskR w bd mv w' mv') : Trio W w' b k v s bc cl bd mv' nd' f' := by
  have hlt := h.my.is.lt
  have hnb : ∀ x, (x = bd ∨ mv = .map (some x)) → ¬ (x = b ∨ x = k ∨ v.ownBlock = some x) := by
    rintro x (rfl | e)
    · exact h.my.is.off (by decide) (by decide) h.de.blk
    · obtain ⟨es, c, hb⟩ := h.de.map_ e
      exact h.my.is.offM (h.hmv x e).2 hb
  refine ⟨⟨h.my.is.fr r.fr (fun e => hnb b e (.inl rfl)) (fun e => hnb k e (.inr (.inl rfl))) (fun j e e' => hnb j e' (.inr (.inr e))), h.my.below.trans (r.fr.below (fun x hx e => ?_) h.my.below.size), h.my.hb, h.my.hk, h.my.hv⟩, h.ca.fr r.fr (h.de.offB (by decide) h.ca), d, h.hbc, h.hbd, ?_⟩
  · rcases e with rfl | e
    · exact h.hbd
    · exact (h.hmv x e).1
  · intro j e
    rcases r.lies with e1 | ⟨g, e1, hg⟩
    · exact h.hmv j (e1 ▸ e)
    · rw [e1] at e
      cases e
      have := h.my.below.size
      exact ⟨by omega, by omega⟩
theorem Trio.fr (h : Trio W w b k v s bc cl bd mv nd f) (hf : Below w.heap.size w w') : Trio W w' b k v s bc cl bd mv nd f :=
  ⟨h.my.below2 hf, h.ca.below hf h.ca.lt, h.de.fr (Fr.of_below (S := fun j => w.heap.size ≤ j) hf fun _ e _ => e) (by have := h.de.blk.lt; omega) (fun j e => by obtain ⟨es, c, hb⟩ := h.de.map_ e; have := (Array.getElem?_eq_some_iff.1 hb).1; omega), h.hbc, h.hbd, h.hmv⟩
theorem Trio.alloc (h : Trio W w b k v s bc cl bd mv nd f) (o : Obj) : Trio W (w.alloc o) b k v s bc cl bd mv nd f := h.fr ((Below.refl _ w).alloc (Nat.le_refl _) o)
theorem Trio.drewN (h : Trio W w b k v s bc cl bd mv nd f) (n : Nat) : Trio W (w.drewN n) b k v s bc cl bd mv nd f := h.fr (below_drewN (Below.refl _ w) n)
theorem Trio.drew (h : Trio W w b k v s bc cl bd mv nd f) : Trio W w.drew b k v s bc cl bd mv nd f := h.drewN 1
end
end Go.Proofs.Ytiaknanflgdmoaa
