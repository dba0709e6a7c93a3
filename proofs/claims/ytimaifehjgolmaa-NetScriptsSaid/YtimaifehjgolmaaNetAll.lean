/- The net, the reference's, and another one, in one world. -/
import Derived.Test.YtimaifehjgolmaaNetSame
import Derived.Test.YtimaifehjgolmaaNetActs
namespace Go.Proofs.Ytimaifehjgolmaa
open Go.RowKit Go.Maps
set_option linter.unusedVariables false
set_option linter.unusedSimpArgs false
def NS.CutOk (s : NS) : Prop := ∀ a b, s.knows a b = false → s.cut (wayOf a b) = false
theorem knows_comm (s : NS) (a b : Int) : s.knows a b = s.knows b a := by unfold NS.knows; rw [Bool.and_comm]
theorem CutOk.part {s s' : NS} {x y j : Int} {c : Bool} (h : s.CutOk) (hr : s.part x y c = (s', j)) : s'.CutOk := by
  unfold NS.part at hr
  split at hr
  · rename_i hk
    cases hr
    intro a b hab
    show (if wayOf a b = wayOf x y then c else s.cut (wayOf a b)) = false
    have hab2 : s.knows a b = false := hab
    rw [if_neg]
    · exact h a b hab2
    · intro e
      rw [Bool.and_eq_true] at hk
      rcases wayOf_eq.1 e with ⟨rfl, rfl⟩ | ⟨rfl, rfl⟩
      · rw [hk.1] at hab2; cases hab2
      · rw [knows_comm, hk.1] at hab2; cases hab2
  · cases hr; exact h
theorem CutOk.same {s s' : NS} (h : s.CutOk) (h1 : s'.nodes = s.nodes) (h2 : s'.cut = s.cut) : s'.CutOk := by
  intro a b hab
  rw [h2]
  exact h a b (by unfold NS.knows at hab ⊢; rw [h1] at hab; exact hab)
theorem CutOk.send {s s' : NS} {x y i j : Int} {t : ByteArray} (h : s.CutOk) (hr : s.send x y t = (s', i, j)) : s'.CutOk := by
  unfold NS.send at hr
  split at hr
  · cases hr; exact h
  split at hr
  · cases hr; exact h
  split at hr <;> (cases hr; exact h)
theorem CutOk.drop {s s' : NS} {x j : Int} (h : s.CutOk) (hr : s.drop x = (s', j)) : s'.CutOk := by
  unfold NS.drop at hr
  split at hr <;> (cases hr; exact h)
theorem CutOk.double {s s' : NS} {x j : Int} (h : s.CutOk) (hr : s.double x = (s', j)) : s'.CutOk := by
  unfold NS.double at hr
  split at hr
  · split at hr <;> (cases hr; exact h)
  · cases hr; exact h
theorem CutOk.deliver {s s' : NS} {x j : Int} {l : Letter} (h : s.CutOk) (hr : s.deliver x = (s', l, j)) : s'.CutOk := by
  unfold NS.deliver at hr
  split at hr
  · split at hr <;> (cases hr; exact h)
  · cases hr; exact h
theorem own_heap {w : World} {base : Nat} {e : TypeId} {size n : Nat} {v : Value} {xs : List Value} (h : w.ownsRow base e size v n xs) {k : Nat} (hk : v.ownBlock = some k) : ∃ cur, w.heap[k]? = some (.cells cur e (0, 0)) := by
  rcases h.2 with ⟨rfl, _⟩ | ⟨g, cap, cur, rfl, _, hg, _⟩
  · cases hk
  · cases hk; exact ⟨cur, hg⟩
/-- What a net's blocks are not. -/
theorem NetIs.off {w : World} {b k n : Nat} {v : Value} {s : NS} (h : NetIs w b k n v s) {j : Nat} {cs : Array Value} {T : TypeId} (hj : w.heap[j]? = some (.cells cs T (0, 0))) (h1 : T ≠ 65) (h2 : T ≠ 32) : ¬ (j = b ∨ j = k ∨ v.ownBlock = some j) := by
  rintro (rfl | rfl | e)
  · have := h.at_.blk.symm.trans hj
    simp at this; exact h1 this.2.symm
  · obtain ⟨D, ⟨es, cl, hb, _⟩, _⟩ := h.at_.map
    rw [hj] at hb; cases hb
  · obtain ⟨cur, hg⟩ := own_heap h.at_.recs.own e
    rw [hg] at hj; simp at hj; exact h2 hj.2.symm
theorem RefIs.off {w : World} {b : Nat} {v : Value} {s : NS} (h : RefIs w b v s) {j : Nat} (hj : ∀ cs, w.heap[j]? ≠ some (.cells cs 59 (0, 0))) (hk : ∀ cs, w.heap[j]? ≠ some (.cells cs 48 (0, 0))) : ¬ FieldS b v j := by
  rintro (rfl | e)
  · obtain ⟨cs, _, hB, _⟩ := h.blk
    exact hj _ hB
  · obtain ⟨cur, hg⟩ := own_heap h.recs.own e
    exact hk _ hg
theorem RefIs.keep {w w' : World} {b b2 k n : Nat} {v v' u : Value} {s t : NS} (h : RefIs w b2 u t) (hN : NetIs w b k n v s) (r : NetR w b k v w' v') : RefIs w' b2 u t := by
  obtain ⟨cs, _, hB, _⟩ := h.blk
  exact h.fr r.fr (hN.off hB (by decide) (by decide)) fun j e => by
    obtain ⟨cur, hg⟩ := own_heap h.recs.own e
    exact hN.off hg (by decide) (by decide)
theorem NetIs.keep {w w' : World} {b b2 k n : Nat} {v u u' : Value} {s t : NS} (hN : NetIs w b k n v s) (h : RefIs w b2 u t) (r : RefR w b2 u w' u') : NetIs w' b k n v s := by
  refine hN.fr r.fr (h.off ?_ ?_) (h.off ?_ ?_) fun j e => h.off ?_ ?_
  · intro cs hk; rw [hN.at_.blk] at hk; simp at hk
  · intro cs hk; rw [hN.at_.blk] at hk; simp at hk
  · intro cs hk; obtain ⟨D, ⟨es, cl, hb, _⟩, _⟩ := hN.at_.map; rw [hk] at hb; cases hb
  · intro cs hk; obtain ⟨D, ⟨es, cl, hb, _⟩, _⟩ := hN.at_.map; rw [hk] at hb; cases hb
  · intro cs hk; obtain ⟨cur, hg⟩ := own_heap hN.at_.recs.own e; rw [hg] at hk; simp at hk
  · intro cs hk; obtain ⟨cur, hg⟩ := own_heap hN.at_.recs.own e; rw [hg] at hk; simp at hk
/-- All three. -/
structure All (W w : World) (b1 k1 n : Nat) (v : Value) (s : NS) (b2 : Nat) (u : Value) (t : NS) (b3 k3 : Nat) (s3 : NS) : Prop where
  net : NetIs w b1 k1 n v s
  ref : RefIs w b2 u t
  oth : NetIs w b3 k3 0 (.slice none 0 0) s3
  below : Below W.heap.size W w
  h1 : W.heap.size ≤ b1
  h2 : W.heap.size ≤ k1
  h3 : W.heap.size ≤ b2
  h4 : ∀ j, v.ownBlock = some j → W.heap.size ≤ j
  h5 : ∀ j, u.ownBlock = some j → W.heap.size ≤ j
  n1 : b3 ≠ b1
  n2 : k3 ≠ k1
section
variable {W w w' : World} {b1 k1 n n' : Nat} {v v' : Value} {s s' : NS} {b2 : Nat} {u u' : Value} {t t' : NS} {b3 k3 : Nat} {s3 : NS}
theorem All.stepNet (h : All W w b1 k1 n v s b2 u t b3 k3 s3) (h' : NetIs w' b1 k1 n' v' s') (r : NetR w b1 k1 v w' v') : All W w' b1 k1 n' v' s' b2 u t b3 k3 s3 := by
  obtain ⟨p1, p2⟩ := r.below h.below h.below.size h.h1 h.h2 h.h4
  refine ⟨h', h.ref.keep h.net r, ?_, p1, h.h1, h.h2, h.h3, p2, h.h5, h.n1, h.n2⟩
  refine h.oth.fr r.fr ?_ ?_ fun j e => by cases e
  · rintro (e | e | e)
    · exact h.n1 e
    · obtain ⟨D, ⟨es, cl, hb, _⟩, _⟩ := h.net.at_.map
      rw [← e, h.oth.at_.blk] at hb; cases hb
    · obtain ⟨cur, hg⟩ := own_heap h.net.at_.recs.own e
      rw [h.oth.at_.blk] at hg; simp at hg
  · rintro (e | e | e)
    · obtain ⟨D, ⟨es, cl, hb, _⟩, _⟩ := h.oth.at_.map
      rw [e, h.net.at_.blk] at hb; cases hb
    · exact h.n2 e
    · obtain ⟨cur, hg⟩ := own_heap h.net.at_.recs.own e
      obtain ⟨D, ⟨es, cl, hb, _⟩, _⟩ := h.oth.at_.map
      rw [hg] at hb; cases hb
theorem All.stepRef (h : All W w b1 k1 n v s b2 u t b3 k3 s3) (h' : RefIs w' b2 u' t') (r : RefR w b2 u w' u') : All W w' b1 k1 n v s b2 u' t' b3 k3 s3 := by
  refine ⟨h.net.keep h.ref r, h', h.oth.keep h.ref r, h.below.trans (r.fr.below (fun x _ e => ?_) h.below.size), h.h1, h.h2, h.h3, h.h4, fun j e => ?_, h.n1, h.n2⟩
  · rcases e with rfl | e
    · exact h.h3
    · exact h.h5 x e
  · rcases r.lies j e with e1 | e1
    · exact h.h5 j e1
    · have := h.below.size; omega
theorem All.below2 (h : All W w b1 k1 n v s b2 u t b3 k3 s3) (hb : Below w.heap.size w w') : All W w' b1 k1 n v s b2 u t b3 k3 s3 :=
  ⟨h.net.below hb (Nat.le_refl _), h.ref.below hb (Nat.le_refl _), h.oth.below hb (Nat.le_refl _), below_then h.below h.below.size hb, h.h1, h.h2, h.h3, h.h4, h.h5, h.n1, h.n2⟩
theorem All.alloc (h : All W w b1 k1 n v s b2 u t b3 k3 s3) (o : Obj) : All W (w.alloc o) b1 k1 n v s b2 u t b3 k3 s3 := h.below2 ((Below.refl _ w).alloc (Nat.le_refl _) o)
theorem All.drewN (h : All W w b1 k1 n v s b2 u t b3 k3 s3) (m : Nat) : All W (w.drewN m) b1 k1 n v s b2 u t b3 k3 s3 := h.below2 (below_drewN (Below.refl _ w) m)
theorem All.mono (h : All W w b1 k1 n v s b2 u t b3 k3 s3) {m : Nat} (hm : n ≤ m) : All W w b1 k1 m v s b2 u t b3 k3 s3 :=
  ⟨⟨⟨h.net.at_.blk, h.net.at_.recs, h.net.at_.map.mono hm, h.net.at_.ne⟩, h.net.ok⟩, h.ref, h.oth, h.below, h.h1, h.h2, h.h3, h.h4, h.h5, h.n1, h.n2⟩
/-- All blocks lie below B. -/
structure AllLt (B b1 k1 : Nat) (v : Value) (b2 : Nat) (u : Value) (b3 k3 : Nat) : Prop where
  l1 : b1 < B
  l2 : k1 < B
  l3 : b2 < B
  l4 : b3 < B
  l5 : k3 < B
  l6 : ∀ j, v.ownBlock = some j → j < B
  l7 : ∀ j, u.ownBlock = some j → j < B
theorem All.lt (h : All W w b1 k1 n v s b2 u t b3 k3 s3) : AllLt w.heap.size b1 k1 v b2 u b3 k3 :=
  ⟨h.net.lt.1, h.net.lt.2.1, h.ref.lt, h.oth.lt.1, h.oth.lt.2.1, h.net.lt.2.2, h.ref.vlt⟩
theorem All.other (h : All W w b1 k1 n v s b2 u t b3 k3 s3) {B g : Nat} (hl : AllLt B b1 k1 v b2 u b3 k3) (hf : Fr w w' (fun j => j = g)) (hg : B ≤ g) (hW : W.heap.size ≤ g) : All W w' b1 k1 n v s b2 u t b3 k3 s3 :=
  ⟨h.net.fr hf (by have := hl.l1; omega) (by have := hl.l2; omega) (fun j e e' => by have := hl.l6 j e; omega),
   h.ref.fr hf (by have := hl.l3; omega) (fun j e e' => by have := hl.l7 j e; omega),
   h.oth.fr hf (by have := hl.l4; omega) (by have := hl.l5; omega) (fun j e => by cases e),
   h.below.trans (hf.below (fun x _ e => by omega) h.below.size), h.h1, h.h2, h.h3, h.h4, h.h5, h.n1, h.n2⟩
end
end Go.Proofs.Ytimaifehjgolmaa
