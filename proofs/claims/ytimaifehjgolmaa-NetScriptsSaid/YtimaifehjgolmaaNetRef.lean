/- The reference's net. -/
import Derived.Test.YtimaifehjgolmaaNetOps4
namespace Go.Proofs.Ytimaifehjgolmaa
open Go.RowKit Go.Maps
set_option linter.unusedVariables false
set_option linter.unusedSimpArgs false
/-- The reference's net at block b. -/
structure RefIs (w : World) (b : Nat) (v : Value) (s : NS) : Prop where
  blk : ∃ cs : List Value, cs.length = 4096 ∧ Blk w b (.int .i64 s.nodes :: .int .i64 s.sent :: v :: cs) 59 ∧ ∀ x y : Nat, x < 64 → y < 64 → cs[x * 64 + y]? = some (.bool (s.cut (wayOf x y)))
  recs : Recs w 0 48 4 v (s.fly.map Letter.cells)
  ne : v.ownBlock ≠ some b
def newNS' (n : Int) : NS := ⟨min (max n 0) 64, 0, [], fun _ => false⟩
def cuts0 : List Value := List.replicate 4096 (.bool false)
set_option maxRecDepth 1000000 in
theorem rzero (w : World) : (zeroValue 59).run Try.prog w = .ok (.agg (Value.int .i64 0 :: .int .i64 0 :: .slice none 0 0 :: cuts0).toArray) w := by kernel_rfl
theorem cuts0_get {i : Nat} (h : i < 4096) : cuts0[i]? = some (.bool false) := by unfold cuts0; rw [List.getElem?_replicate, if_pos h]
theorem cuts0_len : cuts0.length = 4096 := by unfold cuts0; rw [List.length_replicate]
theorem RefIs.new (w : World) (n : Int) : RefIs (w.alloc (.cells (Value.int .i64 n :: .int .i64 0 :: .slice none 0 0 :: cuts0).toArray 59)) w.heap.size (.slice none 0 0) ⟨n, 0, [], fun _ => false⟩ :=
  ⟨⟨cuts0, cuts0_len, Blk.new w _ _, fun x y hx hy => cuts0_get (by omega)⟩, Recs.nil _ _ _ _, by intro h; cases h⟩
set_option maxHeartbeats 2000000 in
theorem refNew_any (n : Int) (w : World) : Calls Try.prog 15 #[.int .i64 n] w fun e w' => e = .returned (.pointer (some ⟨w.heap.size, 0, none⟩)) ∧ RefIs w' w.heap.size (.slice none 0 0) ⟨min (max n 0) 64, 0, [], fun _ => false⟩ ∧ Below w.heap.size w w' := by
  have hz := rzero
  have key : ∀ m : Int, m = min (max n 0) 64 → RefIs (w.alloc (.cells (Value.int .i64 m :: .int .i64 0 :: .slice none 0 0 :: cuts0).toArray 59)) w.heap.size (.slice none 0 0) ⟨min (max n 0) 64, 0, [], fun _ => false⟩ ∧ Below w.heap.size w (w.alloc (.cells (Value.int .i64 m :: .int .i64 0 :: .slice none 0 0 :: cuts0).toArray 59)) := by
    rintro m rfl
    exact ⟨RefIs.new w _, (Below.refl _ w).alloc (Nat.le_refl _) _⟩
  have HK := Lib.hid key
  clear key
  rcases (show n < 0 ∨ (0 ≤ n ∧ n ≤ 64) ∨ 64 < n by omega) with h | ⟨h, h2⟩ | h
  all_goals
    go_enter Try.func15, Try.ntmps15
    go_wp2_with fail
    go_ret
    exact ⟨rfl, HK.out _ (by omega)⟩
section
variable {w : World} {b : Nat} {v : Value} {s : NS}
theorem RefIs.lt (h : RefIs w b v s) : b < w.heap.size := by obtain ⟨cs, _, hb, _⟩ := h.blk; exact hb.lt
theorem RefIs.c0 (h : RefIs w b v s) : w.cell? ⟨b, 0, none⟩ = some (.int .i64 s.nodes) := by obtain ⟨cs, _, hb, _⟩ := h.blk; exact hb.cell 0
theorem RefIs.c1 (h : RefIs w b v s) : w.cell? ⟨b, 1, none⟩ = some (.int .i64 s.sent) := by obtain ⟨cs, _, hb, _⟩ := h.blk; exact hb.cell 1
theorem RefIs.c2 (h : RefIs w b v s) : w.cell? ⟨b, 2, none⟩ = some v := by obtain ⟨cs, _, hb, _⟩ := h.blk; exact hb.cell 2
theorem RefIs.fz (h : RefIs w b v s) : ∀ j, w.frozen? ⟨b, j, none⟩ = false := by obtain ⟨cs, _, hb, _⟩ := h.blk; exact fun j => hb.frozen j
theorem RefIs.cutAt (h : RefIs w b v s) {x y : Nat} (hx : x < 64) (hy : y < 64) : w.cell? ⟨b, 3 + x * 64 + y, none⟩ = some (.bool (s.cut (wayOf x y))) := by
  obtain ⟨cs, _, hb, hc⟩ := h.blk
  rw [hb.cell, show 3 + x * 64 + y = (x * 64 + y) + 1 + 1 + 1 by omega]
  exact hc x y hx hy
theorem RefIs.fr {w' : World} {S : Nat → Prop} (h : RefIs w b v s) (hf : Fr w w' S) (hb : ¬ S b) (hv : ∀ j, v.ownBlock = some j → ¬ S j) : RefIs w' b v s := by
  obtain ⟨cs, hl, hB, hc⟩ := h.blk
  exact ⟨⟨cs, hl, hB.fr hf hb, hc⟩, h.recs.fr hf hv, h.ne⟩
theorem RefIs.vlt (h : RefIs w b v s) : ∀ j, v.ownBlock = some j → j < w.heap.size := fun j e => (h.recs.own.lt j e).2
theorem RefIs.below {w' : World} (h : RefIs w b v s) {B : Nat} (hb : Below B w w') (hB : w.heap.size ≤ B) : RefIs w' b v s :=
  h.fr (Fr.of_below (S := fun j => B ≤ j) hb fun _ e _ => e) (by have := h.lt; omega) (fun j e => by have := h.vlt j e; omega)
theorem RefIs.alloc (h : RefIs w b v s) (o : Obj) : RefIs (w.alloc o) b v s := h.fr ((Fr.refl w fun _ => False).alloc o) (fun e => e) (fun _ _ e => e)
theorem RefIs.drewN (h : RefIs w b v s) (m : Nat) : RefIs (w.drewN m) b v s := h.fr ((Fr.refl w fun _ => False).drewN m) (fun e => e) (fun _ _ e => e)
theorem RefIs.setSent (h : RefIs w b v s) (x : Int) : RefIs (w.setCell ⟨b, 1, none⟩ (.int .i64 x)) b v { s with sent := x } ∧ FieldR w b v (w.setCell ⟨b, 1, none⟩ (.int .i64 x)) v := by
  have hf : Fr w (w.setCell ⟨b, 1, none⟩ (.int .i64 x)) (fun j => j = b) := (Fr.refl w _).setCell _ _ fun _ => rfl
  obtain ⟨cs, hl, hB, hc⟩ := h.blk
  refine ⟨⟨⟨cs, hl, hB.set 1 _, hc⟩, h.recs.fr hf (fun j e e' => h.ne (e' ▸ e)), h.ne⟩, .inl rfl, hf.mono fun _ _ e => .inl e⟩
theorem RefIs.push {w' : World} {v' : Value} (h : RefIs w b v s) (l : Letter)
    (hO : w'.ownsRow 0 48 4 v' (s.fly.length + 1) ((s.fly.map Letter.cells).flatten ++ l.cells)) (hG : w.grownBy w' v.ownBlock) (hN : v'.ownBlock = v.ownBlock ∨ ∃ g, v'.ownBlock = some g ∧ w.heap.size ≤ g) :
    RefIs (w'.setCell ⟨b, 2, none⟩ v') b v' { s with fly := s.fly ++ [l] } ∧ FieldR w b v (w'.setCell ⟨b, 2, none⟩ v') v' := by
  have hf : Fr w w' (fun j => v.ownBlock = some j) := Fr.of_grown hG fun _ e => e
  have hf2 : Fr w' (w'.setCell ⟨b, 2, none⟩ v') (fun j => j = b) := (Fr.refl w' _).setCell _ _ fun _ => rfl
  have hne : v'.ownBlock ≠ some b := by
    rcases hN with e | ⟨g, e, hg⟩
    · rw [e]; exact h.ne
    · rw [e]; intro e'; have := Option.some.inj e'; have := h.lt; omega
  obtain ⟨cs, hl, hB, hc⟩ := h.blk
  refine ⟨⟨⟨cs, hl, (hB.fr hf h.ne).set 2 v', hc⟩, ?_, hne⟩, hN, (hf.mono (T := FieldS b v) fun _ _ e => .inr e).trans hf2 fun _ _ e => .inl e⟩
  have h1 : Recs w' 0 48 4 v' (s.fly.map Letter.cells ++ [l.cells]) := h.recs.app l.cells rfl (by rw [List.length_map]; exact hO)
  have h2 := h1.fr hf2 (fun j e e' => hne (e' ▸ e))
  simpa using h2
end
theorem node_any (b : Nat) (v : Value) (s : NS) (k : Int) (w : World) (h : RefIs w b v s) : Calls Try.prog 29 #[.pointer (some ⟨b, 0, none⟩), .int .i64 k] w fun e w' => e = .returned (.bool (decide (0 ≤ k ∧ k < s.nodes))) ∧ w = w' := by
  have c0 := h.c0
  have H := Lib.hid h
  clear h
  by_cases h1 : 0 ≤ k
  · by_cases h2 : k < s.nodes
    · rw [show decide (0 ≤ k ∧ k < s.nodes) = true by simp; omega]
      go_enter Try.func29, Try.ntmps29
      go_wp2
      go_ret
      exact ⟨rfl, rfl⟩
    · rw [show decide (0 ≤ k ∧ k < s.nodes) = false by simp; omega]
      go_enter Try.func29, Try.ntmps29
      go_wp2
      go_ret
      exact ⟨rfl, rfl⟩
  · rw [show decide (0 ≤ k ∧ k < s.nodes) = false by simp; omega]
    go_enter Try.func29, Try.ntmps29
    go_wp2
    go_ret
    exact ⟨rfl, rfl⟩
end Go.Proofs.Ytimaifehjgolmaa
