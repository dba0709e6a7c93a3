/- The last calls on a net. -/
import Derived.Test.YtiaknanflgdmoaaNetOps2
namespace Go.Proofs.Ytiaknanflgdmoaa
open Go.RowKit Go.Maps
set_option linter.unusedVariables false
set_option linter.unusedSimpArgs false
theorem way_ok2 (a c : Int) (ha : (Lit.int .i64 a).wf = true) (hc : (Lit.int .i64 c).wf = true) : way.ok (wayOf a c) := by
  unfold wayOf
  rcases Int.le_total a c with h | h
  · rw [Int.min_eq_left h, Int.max_eq_right h]; exact way_ok a c ha hc
  · rw [Int.min_eq_right h, Int.max_eq_left h]; exact way_ok c a hc ha
theorem cutMap_del (cut : Int × Int → Bool) (p : Int × Int) : delK (cutMap cut) p = cutMap (fun q => if q = p then false else cut q) := by
  funext q
  unfold delK cutMap
  by_cases h : q = p <;> simp [h]
theorem cutMap_set (cut : Int × Int → Bool) (p : Int × Int) : setK (delK (cutMap cut) p) p (.int .i64 1) = cutMap (fun q => if q = p then true else cut q) := by
  funext q
  unfold delK cutMap setK
  by_cases h : q = p <;> simp [h]
theorem NetAt.setMap {w w' : World} {b k n m : Nat} {nodes sent : Int} {v : Value} {L : List Letter} {g g' : Int × Int → Option Value} (h : NetAt w b nodes sent v L k n g) (hM : MapAt w' way k m g') (hf : Fr w w' (fun j => j = k)) :
    NetAt w' b nodes sent v L k m g' ∧ NetR w b k v w' v :=
  ⟨⟨h.blk.fr hf h.mapNe.1, h.recs.fr hf (fun j e e' => h.mapNe.2 (e' ▸ e)), hM, h.ne⟩, .inl rfl, hf.mono fun _ _ e => .inr (.inl e)⟩
theorem IntPost.same2 {w w1 : World} {b k n m : Nat} {v : Value} {s : NS} {r : NS × Int} {x : Int} (h : NetIs w1 b k n v s) (hr : (s, x) = r) (hf : Fr w w1 (fun _ => False)) (hm : n ≤ m) : IntPost w b k m v r (.returned (.int .i64 x)) w1 := by
  subst hr; exact ⟨rfl, _, ⟨⟨h.at_.blk, h.at_.recs, h.at_.map.mono hm, h.at_.ne⟩, h.ok⟩, NetR.of_fr hf _ _ _⟩
theorem NS.Ok.recut {s : NS} (h : s.Ok) (c : Int × Int → Bool) : NS.Ok { s with cut := c } := ⟨h.n0, h.n1, h.s0, h.len, h.src⟩
theorem NetR.of_new {w w' : World} {b k : Nat} {v : Value} (h : Fr w w' (fun j => w.heap.size ≤ j)) : NetR w b k v w' v := ⟨.inl rfl, ⟨h.os, h.tape, h.output, h.size, fun x hx _ => h.block x hx (by omega)⟩⟩
theorem NetR.of_below {w w' : World} {b k : Nat} {v : Value} (h : Below w.drew.heap.size w.drew w') : NetR w b k v w' v := .of_new (Fr.of_below (w := w) (S := fun j => w.heap.size ≤ j) ⟨h.os, h.tape, h.output, h.size, h.block⟩ fun _ e _ => e)
theorem NetAt.frNew {w w' : World} {b k n : Nat} {nodes sent : Int} {v : Value} {L : List Letter} {g : Int × Int → Option Value} (h : NetAt w b nodes sent v L k n g) (hf : Fr w w' (fun j => w.heap.size ≤ j)) : NetAt w' b nodes sent v L k n g :=
  ⟨h.blk.fr hf (by have := h.blk.lt; omega), h.recs.fr hf (fun j e => by have := (h.recs.own.lt j e).2; omega), h.map.fr hf (by have := h.map.lt; omega), h.ne⟩
end Go.Proofs.Ytiaknanflgdmoaa
