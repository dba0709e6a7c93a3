/- What a region that draws its order leaves alone while it makes a struct in block g: a class of worlds for go_region_held3. -/
import Derived.Test.YtclalapadpjclaaDoorApp0
import Derived.Deep.RegionHeld3
namespace Go.Proofs.YtclalapadpjclaaDoor
open Go.RowKit
set_option linter.unusedVariables false
set_option linter.unusedSimpArgs false
/-- From w2 on all old blocks but g are as they were; g is a block of m cells that may be written. -/
structure Held (w2 : World) (g m : Nat) (t : TypeId) (X : World) : Prop where
  fr : Fr w2 X (fun k => k = g)
  blk : ∃ cs, cs.length = m ∧ Blk X g cs t
theorem Held.start {w2 : World} {g : Nat} {cs : List Value} {t : TypeId} (h : Blk w2 g cs t) : Held w2 g cs.length t w2.drew := ⟨⟨rfl, rfl, rfl, Nat.le_refl _, fun _ _ _ => rfl⟩, cs, rfl, h⟩
theorem Held.alloc {w2 X : World} {g m : Nat} {t : TypeId} (h : Held w2 g m t X) (o : Obj) : Held w2 g m t (X.alloc o) := by
  obtain ⟨cs, h1, h2⟩ := h.blk
  exact ⟨h.fr.alloc o, cs, h1, h2.alloc o⟩
theorem Held.allocD {w2 X : World} {g m : Nat} {t : TypeId} (h : Held w2 g m t X.drew) (o : Obj) : Held w2 g m t (X.alloc o).drew := h.alloc o
theorem Held.allocD2 {w2 X : World} {g m : Nat} {t : TypeId} (h : Held w2 g m t X.drew.drew) (o : Obj) : Held w2 g m t (X.alloc o).drew.drew := h.alloc o
theorem Held.below {w2 X Y : World} {g m : Nat} {t : TypeId} (h : Held w2 g m t X) (hb : Below X.heap.size X Y) : Held w2 g m t Y := by
  obtain ⟨cs, h1, h2⟩ := h.blk
  exact ⟨h.fr.trans (Fr.of_below (S := fun _ => False) hb fun k e hk => by omega) fun _ _ e => e.elim, cs, h1, h2.below hb h2.lt⟩
theorem Held.setCell {w2 X : World} {g m : Nat} {t : TypeId} (h : Held w2 g m t X) (j : Nat) (u : Value) : Held w2 g m t (X.setCell ⟨g, j, none⟩ u) := by
  obtain ⟨cs, h1, h2⟩ := h.blk
  exact ⟨h.fr.setCell _ _ fun _ => rfl, cs.set j u, by simpa using h1, h2.set j u⟩
theorem Held.cell {w2 X : World} {g m : Nat} {t : TypeId} (h : Held w2 g m t X) {p : Addr} (hp : p.block < w2.heap.size) (hne : p.block ≠ g) : X.cell? p = w2.cell? p := h.fr.cell hp hne
theorem Held.vw {w2 X : World} {g m : Nat} {t : TypeId} (h : Held w2 g m t X) {size n c : Nat} {p : Option Addr} {xs : List Value} (hv : Vw w2 size p n c xs) (hg : ∀ a, p = some a → a.block ≠ g) : Vw X size p n c xs := hv.fr h.fr fun a e _ => hg a e
theorem Held.cellAt {w2 X : World} {g m : Nat} {t : TypeId} (h : Held w2 g m t X) (j : Nat) (hj : j < m) : ∃ u, X.cell? ⟨g, j, none⟩ = some u ∧ X.frozen? ⟨g, j, none⟩ = false := by
  obtain ⟨cs, h1, h2⟩ := h.blk
  exact ⟨cs[j]'(by omega), by rw [h2.cell]; exact List.getElem?_eq_getElem _, h2.frozen j⟩
/-- where the rows lie: below the block g if they were there before it -/
theorem Held.vw' {w w2 X : World} {g m : Nat} {t : TypeId} (h : Held w2 g m t X) {size n c : Nat} {p : Option Addr} {xs : List Value} (hv : Vw w size p n c xs) (hb : Below w.heap.size w w2) (hg : w.heap.size ≤ g) : Vw X size p n c xs := by
  obtain ⟨h1, h2, h3⟩ := hv
  refine ⟨h1, h2, fun h0 => ?_⟩
  obtain ⟨b, off, rfl, hlt, hc⟩ := h3 h0
  have hs := hb.size
  refine ⟨b, off, rfl, by have := h.fr.size; omega, fun j u hu => ?_⟩
  rw [h.cell (p := ⟨b, off + j, none⟩) (by show b < _; omega) (by show b ≠ g; omega), hb.cell (p := ⟨b, off + j, none⟩) hlt]
  exact hc j u hu
theorem Held.app0 {w2 X Y : World} {g m : Nat} {t : TypeId} (h : Held w2 g m t X) {e : TypeId} {size k : Nat} {v' : Value} {news : List Value} (hA : App0 X Y e size v' k news) :
    Held w2 g m t Y ∧ ∃ p' c', v' = .slice p' k c' ∧ Vw Y size p' k c' news ∧ (0 < k → ∀ a, p' = some a → w2.heap.size ≤ a.block) ∧ Below X.heap.size X Y := by
  obtain ⟨p', c', hv, h1, h2⟩ := hA.vw
  exact ⟨h.below hA.below, p', c', hv, h1, fun h0 a e => Nat.le_trans h.fr.size (h2 h0 a e), hA.below⟩
theorem Held.bel {w w2 X : World} {g m : Nat} {t : TypeId} (h : Held w2 g m t X) {B : Nat} (hb : Below B w w2) (hB : B ≤ w2.heap.size) (hg : B ≤ g) : Below B w X :=
  hb.trans (h.fr.below (fun k _ e => by subst e; exact hg) hB)
theorem Held.put5 {w2 X : World} {g : Nat} {t : TypeId} (h : Held w2 g 5 t X) (a b c d e : Value) :
    Blk (((((X.setCell ⟨g, 0, none⟩ a).setCell ⟨g, 1, none⟩ b).setCell ⟨g, 2, none⟩ c).setCell ⟨g, 3, none⟩ d).setCell ⟨g, 4, none⟩ e) g [a, b, c, d, e] t := by
  obtain ⟨cs, hl, hb⟩ := h.blk
  match cs, hl with
  | [x0, x1, x2, x3, x4], _ => exact ((((hb.set 0 a).set 1 b).set 2 c).set 3 d).set 4 e
theorem Vw.set {X : World} {size n c : Nat} {p : Option Addr} {xs : List Value} (h : Vw X size p n c xs) {g : Nat} (hg : 0 < n → ∀ a, p = some a → a.block ≠ g) (j : Nat) (u : Value) : Vw (X.setCell ⟨g, j, none⟩ u) size p n c xs := by
  by_cases h0 : 0 < n
  · exact h.fr ((Fr.refl X (fun k => k = g)).setCell _ _ fun _ => rfl) fun a e _ => hg h0 a e
  · exact ⟨h.1, h.2.1, fun h1 => absurd h1 h0⟩
end Go.Proofs.YtclalapadpjclaaDoor
