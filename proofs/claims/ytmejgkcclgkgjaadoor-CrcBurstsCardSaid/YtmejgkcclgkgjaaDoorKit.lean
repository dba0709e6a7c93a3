/- Small lemmas that all walks of this seat use. -/
import Derived.Test.YtmejgkcclgkgjaaDoorRows
import Derived.WalkKit
import Derived.WalkSpells
import Derived.WalkLawsBesides
import Derived.Lib.Hide
import Derived.Lib.ConvBytes
import Derived.Lib.Strings
import Derived.Lib.IndexBytes
import Derived.Deep.Light
import Derived.Deep.LoopGhost
import Derived.Deep.DeepCutAuto
import Derived.Deep.QuietTactic
import Derived.BigQuiet
import Derived.StillTailTactics
namespace Go.Proofs.YtmejgkcclgkgjaaDoor
open Go.RowKit
set_option linter.unusedVariables false
set_option linter.unusedSimpArgs false
theorem val_int {k : IntKind} {a b : Int} (h : a = b) : Value.int k a = .int k b := by rw [h]
theorem ret_int {k : IntKind} {a b : Int} (h : a = b) : Ending.returned (.int k a) = .returned (.int k b) := by rw [h]
theorem ret_bool {a b : Bool} (h : a = b) : Ending.returned (.bool a) = .returned (.bool b) := by rw [h]
theorem ret_str {a b : ByteArray} (h : a = b) : Ending.returned (.string a) = .returned (.string b) := by rw [h]
theorem beq0 {n : Nat} (h : n ≠ 0) : ((n : Int) == 0) = false := by simp; omega
theorem quiet_of {P : Program} {f : FuncId} {args : Array Value} {w : World} {n : Nat} {v : Value}
    (h : Calls P f args (w.drewN n) fun e w' => e = .returned v ∧ w.drewN n = w') : Calls P f args (w.drewN n) fun e w'' => e = .returned v ∧ ∃ m, w'' = w.drewN m :=
  h.mono fun _ _ ⟨he, hm⟩ => ⟨he, n, hm.symm⟩
theorem below_drewN {B : Nat} {a w : World} (h : Below B a w) (n : Nat) : Below B a (w.drewN n) := ⟨h.os, h.tape, h.output, h.size, h.block⟩
theorem below_of_grown {w w1 : World} (h : w.grownBy w1 none) : Below w.heap.size w w1 := ⟨h.os, h.tape, h.output, h.size, fun i hi => h.block i hi (by simp)⟩
theorem below_grown {B : Nat} {w0 w w1 : World} (h0 : Below B w0 w) (hB : B ≤ w.heap.size) {row : Option Nat} (h : w.grownBy w1 row) (hr : ∀ k, row = some k → B ≤ k) : Below B w0 w1 := h0.grown h hB hr
/-- Block B's first cells are these, and may be written. -/
def Cells (w : World) (B : Nat) (vs : List Value) : Prop := ∀ j, j < vs.length → w.cell? ⟨B, j, none⟩ = vs[j]? ∧ w.frozen? ⟨B, j, none⟩ = false
theorem Cells.get {w : World} {B : Nat} {vs : List Value} (h : Cells w B vs) {j : Nat} {v : Value} (hj : vs[j]? = some v) : w.cell? ⟨B, j, none⟩ = some v ∧ w.frozen? ⟨B, j, none⟩ = false := by
  have hl : j < vs.length := (List.getElem?_eq_some_iff.1 hj).1
  have := h j hl
  rwa [hj] at this
theorem Cells.set {w : World} {B : Nat} {vs : List Value} (h : Cells w B vs) (k : Nat) (u : Value) (hk : k < vs.length) : Cells (w.setCell ⟨B, k, none⟩ u) B (vs.set k u) := by
  intro j hj
  rw [List.length_set] at hj
  obtain ⟨h1, h2⟩ := h j hj
  refine ⟨?_, by rw [World.frozen?_setCell]; exact h2⟩
  by_cases e : k = j
  · subst e
    rw [World.cell?_setCell_same' _ _ _ (by rw [h1]; simp [hj])]
    simp [hj]
  · rw [List.getElem?_set_ne e, ← h1]
    exact World.cell?_setCell_other _ _ _ _ (by simp [e])
theorem Cells.below {w w' : World} {B N : Nat} {vs : List Value} (h : Cells w B vs) (hb : Below N w w') (hB : B < N) : Cells w' B vs := fun j hj =>
  ⟨(hb.cell (p := ⟨B, j, none⟩) hB).trans (h j hj).1, (hb.frozen (p := ⟨B, j, none⟩) hB).trans (h j hj).2⟩
theorem Cells.drewN {w : World} {B : Nat} {vs : List Value} (h : Cells w B vs) (n : Nat) : Cells (w.drewN n) B vs := h
def bytes (l : List UInt8) : List Value := l.map fun b => .int .u8 (b.toNat : Int)
theorem bytes_length (l : List UInt8) : (bytes l).length = l.length := by simp [bytes]
theorem bytes_get {l : List UInt8} {j : Nat} {b : UInt8} (h : l[j]? = some b) : (bytes l)[j]? = some (.int .u8 (b.toNat : Int)) := by simp [bytes, h]
theorem bytes_set (l : List UInt8) (k : Nat) (b : UInt8) : (bytes l).set k (.int .u8 (b.toNat : Int)) = bytes (l.set k b) := by simp [bytes, List.map_set]
/-- 'string(b)' of a whole block that we hold -/
theorem conv_bytes {P : Program} {w : World} {B : Nat} {l : List UInt8} (h : Cells w B (bytes l)) (src dst e : TypeId) (cap : Nat) (hs : P.underlying src = some (.slice e)) (he : P.underlying e = some (.int .u8)) (hd : P.underlying dst = some .string) (n : Nat) (hn : n = l.length) :
    (convert src dst (.slice (some ⟨B, 0, none⟩) n cap)).run P w = .ok (.string ⟨l.toArray⟩) w := by
  subst hn
  refine run_convert_bytes_back w src dst e ⟨B, 0, none⟩ cap l hs he hd fun j hj => ?_
  have e1 : (⟨B, 0, none⟩ : Addr).add j = ⟨B, j, none⟩ := by unfold Addr.add; split <;> simp_all
  rw [e1]
  exact (h.get (bytes_get (List.getElem?_eq_getElem hj))).1
end Go.Proofs.YtmejgkcclgkgjaaDoor
