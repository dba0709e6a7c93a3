/- A net of a call's own, and NetHeld. -/
import Derived.Test.YtiaknanflgdmoaaNetSpeaks
namespace Go.Proofs.Ytiaknanflgdmoaa
open Go.RowKit Go.Maps
set_option linter.unusedVariables false
set_option linter.unusedSimpArgs false
structure My (W w : World) (b k n : Nat) (v : Value) (s : NS) : Prop where
  is : NetIs w b k n v s
  below : Below W.heap.size W w
  hb : W.heap.size ≤ b
  hk : W.heap.size ≤ k
  hv : ∀ j, v.ownBlock = some j → W.heap.size ≤ j
theorem My.step {W w w' : World} {b k n n' : Nat} {v v' : Value} {s s' : NS} (h : My W w b k n v s) (h' : NetIs w' b k n' v' s') (r : NetR w b k v w' v') : My W w' b k n' v' s' := by
  obtain ⟨h1, h2⟩ := r.below h.below h.below.size h.hb h.hk h.hv
  exact ⟨h', h1, h.hb, h.hk, h2⟩
theorem My.below2 {W w w' : World} {b k n : Nat} {v : Value} {s : NS} (h : My W w b k n v s) (hb : Below w.heap.size w w') : My W w' b k n v s :=
  ⟨h.is.below hb (Nat.le_refl _), below_then h.below h.below.size hb, h.hb, h.hk, h.hv⟩
theorem My.alloc {W w : World} {b k n : Nat} {v : Value} {s : NS} (h : My W w b k n v s) (o : Obj) : My W (w.alloc o) b k n v s := h.below2 ((Below.refl _ w).alloc (Nat.le_refl _) o)
theorem My.drewN {W w : World} {b k n : Nat} {v : Value} {s : NS} (h : My W w b k n v s) (m : Nat) : My W (w.drewN m) b k n v s := h.below2 (below_drewN (Below.refl _ w) m)
theorem My.other {W w w' : World} {b k n g : Nat} {v : Value} {s : NS} (h : My W w b k n v s) (hf : Fr w w' (fun x => x = g)) (hg : W.heap.size ≤ g) (hb : g ≠ b) (hk : g ≠ k) (hv : v.ownBlock ≠ some g) : My W w' b k n v s :=
  ⟨h.is.fr hf (fun e => hb e.symm) (fun e => hk e.symm) (fun j e e' => hv (e' ▸ e)), h.below.trans (hf.below (fun x _ e => e ▸ hg) h.below.size), h.hb, h.hk, h.hv⟩
theorem My.mono {W w : World} {b k n m : Nat} {v : Value} {s : NS} (h : My W w b k n v s) (hm : n ≤ m) : My W w b k m v s :=
  ⟨⟨⟨h.is.at_.blk, h.is.at_.recs, h.is.at_.map.mono hm, h.is.at_.ne⟩, h.is.ok⟩, h.below, h.hb, h.hk, h.hv⟩
theorem My.new (W w : World) (n : Int) (hB : Below W.heap.size W w) : Calls Try.prog 4 #[.int .i64 n] w fun e w' => e = .returned (.pointer (some ⟨w.heap.size + 1, 0, none⟩)) ∧ My W w' (w.heap.size + 1) w.heap.size 0 (.slice none 0 0) (newNS n) ∧ Below w.heap.size w w' := by
  have hs := hB.size
  exact (new_any n w).mono fun e w' ⟨h1, h2, h3⟩ => ⟨h1, ⟨h2, below_then hB hs h3, by omega, hs, fun j e => by cases e⟩, h3⟩
section
variable {W w : World} {b k n : Nat} {v : Value} {s : NS}
theorem My.send (h : My W w b k n v s) (x y : Int) (t : ByteArray) (hs : s.sent < 4611686018427387904) {s' : NS} {i j : Int} (hr : s.send x y t = (s', i, j)) :
    Calls Try.prog 7 #[.pointer (some ⟨b, 0, none⟩), .int .i64 x, .int .i64 y, .string t] w fun e w' => e = .returned (.tuple #[.int .i64 i, .int .i64 j]) ∧ ∃ v', My W w' b k n v' s' ∧ NetR w b k v w' v' := by
  have := send_any b k n v s x y t w h.is hs
  rw [hr] at this
  exact this.mono fun e w' ⟨h1, v', h2, h3⟩ => ⟨h1, v', h.step h2 h3, h3⟩
theorem My.drop (h : My W w b k n v s) (x : Int) {s' : NS} {j : Int} (hr : s.drop x = (s', j)) :
    Calls Try.prog 15 #[.pointer (some ⟨b, 0, none⟩), .int .i64 x] w fun e w' => e = .returned (.int .i64 j) ∧ ∃ v', My W w' b k n v' s' ∧ NetR w b k v w' v' := by
  have := drop_any b k n v s x w h.is
  rw [hr] at this
  exact this.mono fun e w' ⟨h1, v', h2, h3⟩ => ⟨h1, v', h.step h2 h3, h3⟩
theorem My.double (h : My W w b k n v s) (x : Int) {s' : NS} {j : Int} (hr : s.double x = (s', j)) :
    Calls Try.prog 16 #[.pointer (some ⟨b, 0, none⟩), .int .i64 x] w fun e w' => e = .returned (.int .i64 j) ∧ ∃ v', My W w' b k n v' s' ∧ NetR w b k v w' v' := by
  have := double_any b k n v s x w h.is
  rw [hr] at this
  exact this.mono fun e w' ⟨h1, v', h2, h3⟩ => ⟨h1, v', h.step h2 h3, h3⟩
theorem My.parted (h : My W w b k n v s) (x y : Int) (hx : (Lit.int .i64 x).wf = true) (hy : (Lit.int .i64 y).wf = true) :
    Calls Try.prog 23 #[.pointer (some ⟨b, 0, none⟩), .int .i64 x, .int .i64 y] w fun e w' => e = .returned (.bool (s.cut (wayOf x y))) ∧ My W w' b k n v s ∧ Below w.heap.size w w' :=
  (parted_any b k n s.cut x y hx hy w (h.is.at_.blk.cell 3) h.is.lt.1 h.is.at_.map).mono fun e w' ⟨h1, h2⟩ => ⟨h1, h.below2 h2, h2⟩
theorem My.flying (h : My W w b k n v s) :
    Calls Try.prog 8 #[.pointer (some ⟨b, 0, none⟩)] w fun e w' => ∃ A c, e = .returned (.slice A s.fly.length c) ∧ Recs w' w.heap.size 39 4 (.slice A s.fly.length c) (s.fly.map Letter.cells) ∧ My W w' b k n v s ∧ Below w.heap.size w w' :=
  (flying_any b k n v s w h.is).mono fun e w' ⟨v', h1, h2, h3⟩ => by
    obtain ⟨A, c, hv⟩ := h2.slice
    rw [List.length_map] at hv
    subst hv
    exact ⟨A, c, h1, h2, h.below2 h3, h3⟩
theorem My.deliver (h : My W w b k n v s) (x : Int) {s' : NS} {l : Letter} {j : Int} (hr : s.deliver x = (s', l, j)) :
    Calls Try.prog 10 #[.pointer (some ⟨b, 0, none⟩), .int .i64 x] w fun e w' => e = .returned (.tuple #[.agg #[.int .i64 l.num, .int .i64 l.src, .int .i64 l.dst, .string l.txt], .int .i64 j]) ∧ ∃ v', My W w' b k n v' s' ∧ NetR w b k v w' v' := by
  have := deliver_any b k n v s x w h.is
  rw [hr] at this
  exact this.mono fun e w' h1 => by
    obtain ⟨h1, v', h2, h3⟩ := h1.lay
    exact ⟨h1, v', h.step h2 h3, h3⟩
end
end Go.Proofs.Ytiaknanflgdmoaa
