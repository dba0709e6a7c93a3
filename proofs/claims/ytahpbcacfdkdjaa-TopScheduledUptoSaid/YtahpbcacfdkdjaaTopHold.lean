/- TopScheduled: the board and how often each task was begun. -/
import Derived.Test.YtahpbcacfdkdjaaTopPlain
namespace Go.Proofs.Ytahpbcacfdkdjaa
open Go.RowKit
set_option linter.unusedVariables false
set_option linter.unusedSimpArgs false
theorem frNone_below {w w' : World} {B : Nat} (h : Fr w w' (fun _ => False)) (hs : B ≤ w.heap.size) : Below B w w' := h.below (fun _ _ e => e.elim) hs
theorem own_of_blk {w : World} {g n : Nat} {cs : List Value} {e : TypeId} (h : Blk w g cs e) (base : Nat) (hb : base ≤ g) (hl : cs.length = n) (hm : n ≤ maxLen) : w.ownsRow base e 1 (.slice (some ⟨g, 0, none⟩) n n) n cs :=
  ⟨by rw [hl, Nat.mul_one], .inr ⟨g, n, cs.toArray, rfl, hb, h, Nat.le_refl _, hm, by simp [hl], by simp; exact List.take_of_length_le (by omega)⟩⟩
structure Tb (W w : World) (b g : Nat) (vs : List Value) (S : At.Bd) (q : Nat) (ls : List Int) : Prop where
  bd : BoardAt w b g vs S
  lo : Lo W.heap.size b g vs
  below : Below W.heap.size W w
  bg : Blk w q (ints ls) 3
  off : Off w b g vs q
  qlo : W.heap.size ≤ q
theorem Tb.grow {W w w' : World} {b g : Nat} {vs : List Value} {S : At.Bd} {q : Nat} {ls : List Int} {N : Nat} (h : Tb W w b g vs S q ls) (hb : Below N w w') (hN : w.heap.size ≤ N) : Tb W w' b g vs S q ls :=
  ⟨h.bd.below hb hN, h.lo, h.below.trans (hb.mono (Nat.le_trans h.below.size hN)), h.bg.below hb (Nat.lt_of_lt_of_le h.bg.lt hN), h.off.grow hb.size, h.qlo⟩
theorem Tb.fr {W w w' : World} {b g : Nat} {vs : List Value} {S : At.Bd} {q : Nat} {ls : List Int} (h : Tb W w b g vs S q ls) (hf : Fr w w' (fun _ => False)) : Tb W w' b g vs S q ls :=
  ⟨h.bd.frNone hf, h.lo, h.below.trans (frNone_below hf h.below.size), h.bg.fr hf (fun e => e), h.off.grow hf.size, h.qlo⟩
theorem Tb.step {W w w' : World} {b g : Nat} {vs : List Value} {S S' : At.Bd} {q : Nat} {ls : List Int} (h : Tb W w b g vs S q ls) (hto : BoardTo w b g vs S' w') : ∃ vs', Tb W w' b g vs' S' q ls := by
  obtain ⟨vs', h1, h2⟩ := hto
  exact ⟨vs', h1, h.lo.step h2 h.below.size, h.lo.below h2 h.below, h.bg.fr h2.fr h.off.not, h.off.step h2, h.qlo⟩
theorem Tb.put {W w : World} {b g : Nat} {vs : List Value} {S : At.Bd} {q : Nat} {ls : List Int} (h : Tb W w b g vs S q ls) (c : Nat) (x : Int) : Tb W (w.setCell ⟨q, c, none⟩ (.int .i64 x)) b g vs S q (ls.set c x) := by
  have hf : Fr w (w.setCell ⟨q, c, none⟩ (.int .i64 x)) (fun k => k = q) := (Fr.refl w _).setCell _ _ fun _ => rfl
  refine ⟨h.bd.fr hf (fun k hk e => ?_), h.lo, h.below.setCell h.qlo _, ?_, h.off.grow hf.size, h.qlo⟩
  · subst e
    exact h.off.not hk
  · have := h.bg.set c (.int .i64 x)
    rwa [show (ints ls).set c (.int .i64 x) = ints (ls.set c x) by unfold ints; rw [List.map_set]] at this
theorem BOk.mono {S : At.Bd} {N M : Nat} (h : BOk S N) (hm : N ≤ M) : BOk S M := ⟨h.len, h.maps, h.p1, h.p2, fun k hk => (h.tk k hk).mono hm, h.opn, h.dead⟩
theorem En.mono {S : At.Bd} {i j m r wn : Nat} (h : En S i m r wn) (hj : i ≤ j) : En S j m r wn := ⟨h.ok.mono hj, h.maps, h.len, h.lim, h.quiet, h.won⟩
theorem ready_len (S : At.Bd) (node now : Int) : (At.ready S node now).length ≤ S.tasks.length := by
  unfold At.ready
  split
  · exact Nat.zero_le _
  · split
    · exact At.idle_le _ _
    · exact At.slow_le _ _ _ _
end Go.Proofs.Ytahpbcacfdkdjaa
