/- Small lemmas that all walks of this seat use. -/
import Derived.Test.YtgeeaddbapjikaaRows
import Derived.WalkKit
import Derived.WalkSpells
import Derived.WalkLawsBesides
import Derived.Lib.Hide
import Derived.Lib.ConvBytes
import Derived.Lib.AppendStr
import Derived.Lib.Strings
import Derived.Lib.IndexBytes
import Derived.Deep.Light
import Derived.OwnWalk
import Derived.Laws.OwnMore
import Derived.Maps.AppendAt
import Derived.Deep.WholeRow
import Derived.Deep.LoopGhost
import Derived.Deep.DeepCutAuto
import Derived.Deep.QuietTactic
import Derived.BigQuiet
import Derived.StillTailTactics
namespace Go.Proofs.Ytgeeaddbapjikaa
open Go.RowKit
set_option linter.unusedVariables false
set_option linter.unusedSimpArgs false
theorem val_int {k : IntKind} {a b : Int} (h : a = b) : Value.int k a = .int k b := by rw [h]
theorem ret_int {k : IntKind} {a b : Int} (h : a = b) : Ending.returned (.int k a) = .returned (.int k b) := by rw [h]
theorem ret_bool {a b : Bool} (h : a = b) : Ending.returned (.bool a) = .returned (.bool b) := by rw [h]
theorem ret_str {a b : ByteArray} (h : a = b) : Ending.returned (.string a) = .returned (.string b) := by rw [h]
theorem beq0 {n : Nat} (h : n ≠ 0) : ((n : Int) == 0) = false := by simp; omega
theorem quiet_of {P : Program} {f : FuncId} {args : Array Value} {w : World} {n : Nat} {v : Value}
    (h : Calls P f args (w.drewN n) fun e w' => e = .returned v ∧ w.drewN n = w') : Calls P f args (w.drewN n) fun e w'' => e = .returned v ∧ ∃ m, w'' = w.drewN m :=
  h.mono fun _ _ ⟨he, hm⟩ => ⟨he, n, hm.symm⟩
theorem below_drewN {B : Nat} {a w : World} (h : Below B a w) (n : Nat) : Below B a (w.drewN n) := ⟨h.os, h.tape, h.output, h.size, h.block⟩
theorem below_then {B : Nat} {w w1 w2 : World} (h : Below B w w1) (hB : B ≤ w1.heap.size) (k : Below w1.heap.size w1 w2) : Below B w w2 :=
  h.trans ⟨k.os, k.tape, k.output, k.size, fun i hi => k.block i (Nat.lt_of_lt_of_le hi hB)⟩
theorem below_of_grown {w w1 : World} (h : w.grownBy w1 none) : Below w.heap.size w w1 := ⟨h.os, h.tape, h.output, h.size, fun i hi => h.block i hi (by simp)⟩
theorem below_grown {B : Nat} {w0 w w1 : World} (h0 : Below B w0 w) (hB : B ≤ w.heap.size) {row : Option Nat} (h : w.grownBy w1 row) (hr : ∀ k, row = some k → B ≤ k) : Below B w0 w1 := h0.grown h hB hr
/-- Block B's first cells are these, and may be written. -/
def Cells (w : World) (B : Nat) (vs : List Value) : Prop := ∀ j, j < vs.length → w.cell? ⟨B, j, none⟩ = vs[j]? ∧ w.frozen? ⟨B, j, none⟩ = false
theorem Cells.get {w : World} {B : Nat} {vs : List Value} (h : Cells w B vs) {j : Nat} {v : Value} (hj : vs[j]? = some v) : w.cell? ⟨B, j, none⟩ = some v ∧ w.frozen? ⟨B, j, none⟩ = false := by
  have hl : j < vs.length := (List.getElem?_eq_some_iff.1 hj).1
  have := h j hl
  rwa [hj] at this
theorem Cells.set {w : World} {B : Nat} {vs : List Value} (h : Cells w B vs) (k : Nat) (u : Value) (hk : k < vs.length) : Cells (w.setCell ⟨B, k, none⟩ u) B (vs.set k u) := by
  intro j hj
  rw [List.length_set] at hj
  obtain ⟨h1, h2⟩ := h j hj
  refine ⟨?_, by rw [World.frozen?_setCell]; exact h2⟩
  by_cases e : k = j
  · subst e
    rw [World.cell?_setCell_same' _ _ _ (by rw [h1]; simp [hj])]
    simp [hj]
  · rw [List.getElem?_set_ne e, ← h1]
    exact World.cell?_setCell_other _ _ _ _ (by simp [e])
theorem Cells.below {w w' : World} {B N : Nat} {vs : List Value} (h : Cells w B vs) (hb : Below N w w') (hB : B < N) : Cells w' B vs := fun j hj =>
  ⟨(hb.cell (p := ⟨B, j, none⟩) hB).trans (h j hj).1, (hb.frozen (p := ⟨B, j, none⟩) hB).trans (h j hj).2⟩
theorem Cells.drewN {w : World} {B : Nat} {vs : List Value} (h : Cells w B vs) (n : Nat) : Cells (w.drewN n) B vs := h
def bytes (l : List UInt8) : List Value := l.map fun b => .int .u8 (b.toNat : Int)
theorem bytes_length (l : List UInt8) : (bytes l).length = l.length := by simp [bytes]
theorem bytes_get {l : List UInt8} {j : Nat} {b : UInt8} (h : l[j]? = some b) : (bytes l)[j]? = some (.int .u8 (b.toNat : Int)) := by simp [bytes, h]
theorem bytes_set (l : List UInt8) (k : Nat) (b : UInt8) : (bytes l).set k (.int .u8 (b.toNat : Int)) = bytes (l.set k b) := by simp [bytes, List.map_set]
/-- 'string(b)' of a whole block that we hold -/
theorem conv_bytes {P : Program} {w : World} {B : Nat} {l : List UInt8} (h : Cells w B (bytes l)) (src dst e : TypeId) (cap : Nat) (hs : P.underlying src = some (.slice e)) (he : P.underlying e = some (.int .u8)) (hd : P.underlying dst = some .string) (n : Nat) (hn : n = l.length) :
    (convert src dst (.slice (some ⟨B, 0, none⟩) n cap)).run P w = .ok (.string ⟨l.toArray⟩) w := by
  subst hn
  refine run_convert_bytes_back w src dst e ⟨B, 0, none⟩ cap l hs he hd fun j hj => ?_
  have e1 : (⟨B, 0, none⟩ : Addr).add j = ⟨B, j, none⟩ := by unfold Addr.add; split <;> simp_all
  rw [e1]
  exact (h.get (bytes_get (List.getElem?_eq_getElem hj))).1
/-! ### a whole block -/
def Blk (w : World) (g : Nat) (cs : List Value) (t : TypeId) : Prop := w.heap[g]? = some (.cells cs.toArray t (0, 0))
theorem Blk.lt {w : World} {g : Nat} {cs : List Value} {t : TypeId} (h : Blk w g cs t) : g < w.heap.size := (Array.getElem?_eq_some_iff.1 h).1
theorem Blk.cell {w : World} {g : Nat} {cs : List Value} {t : TypeId} (h : Blk w g cs t) (j : Nat) : w.cell? ⟨g, j, none⟩ = cs[j]? := by
  rw [cell_of_row w g j _ t _ h]; simp
theorem Blk.frozen {w : World} {g : Nat} {cs : List Value} {t : TypeId} (h : Blk w g cs t) (j : Nat) : w.frozen? ⟨g, j, none⟩ = false := frozen_of_row w g j _ t h
theorem Blk.cells {w : World} {g : Nat} {cs : List Value} {t : TypeId} (h : Blk w g cs t) : Cells w g cs := fun j _ => ⟨h.cell j, h.frozen j⟩
theorem Blk.set {w : World} {g : Nat} {cs : List Value} {t : TypeId} (h : Blk w g cs t) (k : Nat) (u : Value) : Blk (w.setCell ⟨g, k, none⟩ u) g (cs.set k u) t := by
  have := heap_setCell_same w g k _ t u h
  unfold Blk
  rw [this]; simp
theorem Blk.other {w : World} {g : Nat} {cs : List Value} {t : TypeId} (h : Blk w g cs t) (a : Addr) (u : Value) (hne : g ≠ a.block) : Blk (w.setCell a u) g cs t := by
  unfold Blk
  rw [heap_setCell_other w a g u hne]; exact h
theorem Blk.new (w : World) (cs : List Value) (t : TypeId) : Blk (w.alloc (.cells cs.toArray t)) w.heap.size cs t := heap_alloc_new w _
theorem Blk.alloc {w : World} {g : Nat} {cs : List Value} {t : TypeId} (h : Blk w g cs t) (o : Obj) : Blk (w.alloc o) g cs t := by
  unfold Blk
  rw [Below.heap_alloc w o g h.lt]; exact h
theorem Blk.below {w w' : World} {g N : Nat} {cs : List Value} {t : TypeId} (h : Blk w g cs t) (hb : Below N w w') (hg : g < N) : Blk w' g cs t := (hb.block g hg).trans h
theorem Blk.drewN {w : World} {g : Nat} {cs : List Value} {t : TypeId} (h : Blk w g cs t) (n : Nat) : Blk (w.drewN n) g cs t := h
theorem Blk.row {w : World} {g : Nat} {cs : List Value} {t : TypeId} (h : Blk w g cs t) (cs' : List Value) : Blk (w.setRow g cs'.toArray) g cs' t := setRow_heap w g _ _ t _ h
theorem Blk.rowOther {w : World} {g k : Nat} {cs : List Value} {t : TypeId} (h : Blk w g cs t) (cs' : Array Value) (hne : g ≠ k) : Blk (w.setRow k cs') g cs t := by
  unfold Blk
  rw [setRow_other w k g cs' hne]; exact h
theorem below_setRow' {B g : Nat} {w0 w : World} (hb : Below B w0 w) (hBg : B ≤ g) (cs : Array Value) : Below B w0 (w.setRow g cs) :=
  ⟨hb.os, hb.tape, hb.output, by rw [setRow_size]; exact hb.size, fun k hk => by rw [setRow_other w g k cs (by omega)]; exact hb.block k hk⟩
/-! ### what may have changed -/
/-- Only blocks of S, and new ones, may be others. -/
structure Fr (w w' : World) (S : Nat → Prop) : Prop where
  os : w'.os = w.os
  tape : w'.tape = w.tape
  output : w'.output = w.output
  size : w.heap.size ≤ w'.heap.size
  block : ∀ k, k < w.heap.size → ¬ S k → w'.heap[k]? = w.heap[k]?
theorem Fr.refl (w : World) (S : Nat → Prop) : Fr w w S := ⟨rfl, rfl, rfl, Nat.le_refl _, fun _ _ _ => rfl⟩
theorem Fr.trans {a b c : World} {S T : Nat → Prop} (h : Fr a b S) (k : Fr b c T) (hT : ∀ x, x < a.heap.size → T x → S x) : Fr a c S :=
  ⟨k.os.trans h.os, k.tape.trans h.tape, k.output.trans h.output, Nat.le_trans h.size k.size, fun x hx hS => (k.block x (Nat.lt_of_lt_of_le hx h.size) fun ht => hS (hT x hx ht)).trans (h.block x hx hS)⟩
theorem Fr.mono {a b : World} {S T : Nat → Prop} (h : Fr a b S) (hS : ∀ x, x < a.heap.size → S x → T x) : Fr a b T := ⟨h.os, h.tape, h.output, h.size, fun x hx hT => h.block x hx fun hs => hT (hS x hx hs)⟩
theorem Fr.of_grown {w w' : World} {row : Option Nat} (h : w.grownBy w' row) {S : Nat → Prop} (hS : ∀ k, row = some k → S k) : Fr w w' S :=
  ⟨h.os, h.tape, h.output, h.size, fun x hx hs => h.block x hx fun e => hs (hS x e.symm)⟩
theorem Fr.of_below {B : Nat} {w w' : World} (h : Below B w w') {S : Nat → Prop} (hS : ∀ k, B ≤ k → k < w.heap.size → S k) : Fr w w' S :=
  ⟨h.os, h.tape, h.output, h.size, fun x hx hs => by
    rcases Nat.lt_or_ge x B with hb | hb
    · exact h.block x hb
    · exact absurd (hS x hb hx) hs⟩
theorem Fr.setCell {w0 w : World} {S : Nat → Prop} (h : Fr w0 w S) (a : Addr) (u : Value) (hS : a.block < w0.heap.size → S a.block) : Fr w0 (w.setCell a u) S :=
  ⟨h.os, h.tape, h.output, by rw [World.size_setCell]; exact h.size, fun x hx hs => by
    rw [heap_setCell_other w a x u (fun e => hs (e ▸ hS (e ▸ hx)))]; exact h.block x hx hs⟩
theorem Fr.alloc {w0 w : World} {S : Nat → Prop} (h : Fr w0 w S) (o : Obj) : Fr w0 (w.alloc o) S :=
  ⟨h.os, h.tape, h.output, by have := h.size; simp; omega, fun x hx hs => by
    rw [Below.heap_alloc w o x (Nat.lt_of_lt_of_le hx h.size)]; exact h.block x hx hs⟩
theorem Fr.drewN {w0 w : World} {S : Nat → Prop} (h : Fr w0 w S) (n : Nat) : Fr w0 (w.drewN n) S := ⟨h.os, h.tape, h.output, h.size, h.block⟩
theorem Fr.below {w w' : World} {S : Nat → Prop} (h : Fr w w' S) {B : Nat} (hB : ∀ k, k < w.heap.size → S k → B ≤ k) (hs : B ≤ w.heap.size) : Below B w w' :=
  ⟨h.os, h.tape, h.output, h.size, fun k hk => h.block k (by omega) fun e => by have := hB k (by omega) e; omega⟩
theorem Fr.cell {w w' : World} {S : Nat → Prop} (h : Fr w w' S) {p : Addr} (hp : p.block < w.heap.size) (hs : ¬ S p.block) : w'.cell? p = w.cell? p := World.cell?_of_block (w := w) (h.block p.block hp hs)
theorem Fr.frozen {w w' : World} {S : Nat → Prop} (h : Fr w w' S) {p : Addr} (hp : p.block < w.heap.size) (hs : ¬ S p.block) : w'.frozen? p = w.frozen? p := World.frozen?_of_block (w := w) (h.block p.block hp hs)
theorem Blk.fr {w w' : World} {g : Nat} {cs : List Value} {t : TypeId} {S : Nat → Prop} (h : Blk w g cs t) (hf : Fr w w' S) (hs : ¬ S g) : Blk w' g cs t := (hf.block g h.lt hs).trans h
theorem own_fr {w w' : World} {base : Nat} {e : TypeId} {size n : Nat} {v : Value} {xs : List Value} {S : Nat → Prop} (h : w.ownsRow base e size v n xs) (hf : Fr w w' S) (hs : ∀ k, v.ownBlock = some k → ¬ S k) : w'.ownsRow base e size v n xs := by
  obtain ⟨hl, h2⟩ := h
  refine ⟨hl, ?_⟩
  rcases h2 with h2 | ⟨g, cap, cur, hv, hbg, hh, r⟩
  · exact .inl h2
  · exact .inr ⟨g, cap, cur, hv, hbg, (hf.block g (Array.getElem?_eq_some_iff.1 hh).1 (hs g (by rw [hv]; rfl))).trans hh, r⟩
/-- a struct result and another -/
theorem results_row_tmp {P : Program} {fn : Func} {p q : Tmp} {ty : TypeId} (h : fn.results = #[.cell p ty, .tmp q]) (tmps : Array Value) (w : World) (g : Nat) (t : TypeId) (cs : Array Value) (fr : Nat × Nat) (d : TypeDesc)
    (hp : tmps.getD p undef = .pointer (some ⟨g, 0, none⟩)) (hg : w.heap[g]? = some (.cells cs t fr))
    (hu : P.underlying ty = some d) (hd : (match d with | .struct _ | .array _ _ => true | _ => false) = true) (hi : (P.info? ty).map (·.size) = some cs.size) :
    (results fn tmps).run P w = .ok (.tuple #[.agg cs, tmps.getD q undef]) w := by
  have hp' : tmps[p]?.getD undef = .pointer (some ⟨g, 0, none⟩) := by simpa using hp
  simp [results, h, hp', asAddr, run_loadVar_row w g t ty cs fr d hg hu hd hi]
/-! ### rows of the call's own -/
theorem cell_news (w : World) (news : List Value) (t : TypeId) : ∀ j u, news[j]? = some u → (w.alloc (.cells news.toArray t)).cell? ((⟨w.heap.size, 0, none⟩ : Addr).add j) = some u := by
  intro j u hj
  have e1 : (⟨w.heap.size, 0, none⟩ : Addr).add j = ⟨w.heap.size, j, none⟩ := by unfold Addr.add; split <;> simp_all
  rw [e1, (Blk.new w news t).cell j, hj]
theorem grown_alloc {w w' : World} {ob : Obj} {row : Option Nat} (h : (w.alloc ob).grownBy w' row) : w.grownBy w' row := by
  have hs : (w.alloc ob).heap.size = w.heap.size + 1 := by simp
  exact ⟨h.os, h.tape, h.output, by have := h.size; omega, fun k hk hne => by rw [h.block k (by omega) hne]; exact Below.heap_alloc w ob k hk⟩
theorem own_base {w : World} {base : Nat} {e : TypeId} {size n : Nat} {v : Value} {xs : List Value} (h : w.ownsRow base e size v n xs) : ∀ k, v.ownBlock = some k → base ≤ k := fun k hk => (h.lt k hk).1
theorem below_row {w w' : World} {base B : Nat} {e : TypeId} {size n : Nat} {v : Value} {xs : List Value} (h : w.ownsRow base e size v n xs) (hg : w.grownBy w' v.ownBlock) {w0 : World} (hB : Below B w0 w) (hb : B ≤ base) (hs : B ≤ w.heap.size) : Below B w0 w' :=
  hB.grown hg hs fun k hk => Nat.le_trans hb (own_base h k hk)
/-- an owned row that isn't empty -/
theorem own_some {w : World} {base : Nat} {e : TypeId} {size n : Nat} {v : Value} {xs : List Value} (h : w.ownsRow base e size v n xs) (hn : 0 < n) :
    ∃ g cap, v = .slice (some ⟨g, 0, none⟩) n cap ∧ base ≤ g ∧ g < w.heap.size ∧ Cells w g xs := by
  rcases h with ⟨hl, ⟨rfl, h0⟩ | ⟨g, cap, cur, rfl, hb, hh, hnc, hcm, hcs, htake⟩⟩
  · omega
  · refine ⟨g, cap, rfl, hb, (Array.getElem?_eq_some_iff.1 hh).1, fun j hj => ?_⟩
    have ho : w.ownsRow base e size (.slice (some ⟨g, 0, none⟩) n cap) n xs := ⟨hl, .inr ⟨g, cap, cur, rfl, hb, hh, hnc, hcm, hcs, htake⟩⟩
    exact ⟨ho.cellAt j (by omega), ho.frozenAt j⟩
theorem own_slice {w : World} {base : Nat} {e : TypeId} {size n : Nat} {v : Value} {xs : List Value} (h : w.ownsRow base e size v n xs) : ∃ A c, v = .slice A n c := by
  rcases h.2 with ⟨rfl, rfl⟩ | ⟨g, cap, cur, rfl, _⟩
  · exact ⟨none, 0, rfl⟩
  · exact ⟨_, cap, rfl⟩
theorem own_below {w w1 : World} {base N : Nat} {e : TypeId} {size n : Nat} {v : Value} {xs : List Value} (h : w.ownsRow base e size v n xs) (hb : Below N w w1) (hN : w.heap.size ≤ N) : w1.ownsRow base e size v n xs := by
  obtain ⟨hl, h2⟩ := h
  refine ⟨hl, ?_⟩
  rcases h2 with h2 | ⟨g, cap, cur, hv, hbg, hh, r⟩
  · exact .inl h2
  · exact .inr ⟨g, cap, cur, hv, hbg, (hb.block g (by have := (Array.getElem?_eq_some_iff.1 hh).1; omega)).trans hh, r⟩
theorem own_mono {w : World} {base base' : Nat} {e : TypeId} {size n : Nat} {v : Value} {xs : List Value} (h : w.ownsRow base e size v n xs) (hb : base' ≤ base) : w.ownsRow base' e size v n xs := by
  obtain ⟨hl, h2⟩ := h
  refine ⟨hl, ?_⟩
  rcases h2 with h2 | ⟨g, cap, cur, hv, hbg, r⟩
  · exact .inl h2
  · exact .inr ⟨g, cap, cur, hv, by omega, r⟩
theorem conv_own {P : Program} {w : World} {base : Nat} {v : Value} {l : List UInt8} {e' : TypeId} (h : w.ownsRow base e' 1 v l.length (bytes l)) (src dst e : TypeId) (hs : P.underlying src = some (.slice e)) (he : P.underlying e = some (.int .u8)) (hd : P.underlying dst = some .string) :
    (convert src dst v).run P w = .ok (.string ⟨l.toArray⟩) w := by
  by_cases hn : 0 < l.length
  · obtain ⟨g, cap, rfl, _, _, hC⟩ := own_some h hn
    exact conv_bytes hC _ _ e _ hs he hd _ rfl
  · obtain rfl : l = [] := List.eq_nil_of_length_eq_zero (by omega)
    rcases h.2 with ⟨rfl, _⟩ | ⟨g, cap, cur, rfl, _, hh, _⟩
    · exact run_convert_bytes_nil w src e hs he 0 0 dst hd
    · exact conv_bytes (l := []) (fun j hj => by simp [bytes] at hj) _ _ e _ hs he hd _ rfl
theorem bytes_app (l m : List UInt8) : bytes l ++ bytes m = bytes (l ++ m) := by simp [bytes]
theorem own_drewN {w : World} {base : Nat} {e : TypeId} {size n : Nat} {v : Value} {xs : List Value} (h : w.ownsRow base e size v n xs) (m : Nat) : (w.drewN m).ownsRow base e size v n xs := h
section
variable {P : Program} {ops : Array Oper} {rest : List Oper} {o : Oper} {a : Act} {w : World} {Q : Exit → Act → World → Prop}
/-- a whole array, or struct, is read -/
theorem wpList_load_blk (hgd : o.guard = none) (ty : TypeId) (x : Operand) (ho : o.op = .load ty x) (g : Nat) (hx : a.eval x = .pointer (some ⟨g, 0, none⟩)) (cs : List Value) (t : TypeId) (d : TypeDesc) (hg : Blk w g cs t)
    (hu : P.underlying ty = some d) (hd : (match d with | .struct _ | .array _ _ => true | _ => false) = true) (n : Nat) (hi : (P.info? ty).map (·.size) = some n) (hn : cs.length = n)
    (h : wpList P ops Q rest (a.put o.dst (.agg cs.toArray)) w) : wpList P ops Q (o :: rest) a w :=
  wpList_load_row hgd ty x ho g hx t cs.toArray (0, 0) d hg hu hd (by rw [hi]; simp [hn]) h
/-- append of elements that the statement has just laid down -/
theorem wpList_app (hgd : o.guard = none) (s x : Operand) (t : TypeId) (ho : o.op = .call { callee := .builtin .append, args := #[s, x], argTypes := #[t, t] })
    (base : Nat) (e : TypeId) (z : Value) (size bytes : Nat) (ht : P.underlying t = some (.slice e)) (hinfo : (P.info? e).map (fun i => (i.zero, i.size, i.bytes)) = some (some z, size, bytes)) (hzs : z.cells.size = size) (hsz : 0 < size)
    (v : Value) (n : Nat) (xs : List Value) (hs : a.eval s = v) (hown : w.ownsRow base e size v n xs) (news : List Value) (e' : TypeId) (m c : Nat) (hx : a.eval x = .slice (some ⟨w.heap.size, 0, none⟩) m c) (hl : news.length = m * size) (h1 : news.all (·.oneCell') = true)
    (h63 : n + m ≤ maxLen) (hbytes : (n + m) * bytes ≤ 140737488355328) (hbase : base ≤ w.heap.size)
    (h : ∀ v' w', Hid (w'.ownsRow base e size v' (n + m) (xs ++ news)) → Hid (w.grownBy w' v.ownBlock) → Hid (v'.ownBlock = v.ownBlock ∨ ∃ g, v'.ownBlock = some g ∧ w.heap.size ≤ g) → wpList P ops Q rest (a.put o.dst v') w') : wpList P ops Q (o :: rest) a (w.alloc (.cells news.toArray e')) := by
  obtain ⟨i, hi, hz, hsize, hby⟩ := info_parts hinfo
  obtain ⟨v', w', hr, h2, h3, _, h5⟩ := run_append_own_at (P := P) (w.alloc (.cells news.toArray e')) base t o.type e i z size bytes ht hi hz hsize hby hzs hsz v n xs (hown.alloc _) ⟨w.heap.size, 0, none⟩ m c news hl (cell_news w news e') (fun u hu => List.all_eq_true.1 h1 u hu) h63 hbytes (by simp; omega)
  refine wpList_plain hgd fun K hK => ?_
  unfold Oper.wp execOp
  simp only [ho, resolve, invoke, builtin, Sem.run_bind, Sem.run_pure, Result.andThen_ok, List.map_toArray, List.map_cons, List.map_nil, hs, hx, hr]
  refine hK _ _ (h v' w' h2 (grown_alloc h3) ?_)
  rcases h5 with h5 | h5
  · exact .inl h5
  · exact .inr ⟨_, h5, by simp⟩
/-- the same at a step of a region that draws its order -/
theorem step_app {K : Act → World → Prop} {E : Prop} (hgd : o.guard = none) (s x : Operand) (t : TypeId) (ho : o.op = .call { callee := .builtin .append, args := #[s, x], argTypes := #[t, t] })
    (base : Nat) (e : TypeId) (z : Value) (size bytes : Nat) (ht : P.underlying t = some (.slice e)) (hinfo : (P.info? e).map (fun i => (i.zero, i.size, i.bytes)) = some (some z, size, bytes)) (hzs : z.cells.size = size) (hsz : 0 < size)
    (v : Value) (n : Nat) (xs : List Value) (hs : a.eval s = v) (hown : w.ownsRow base e size v n xs) (news : List Value) (e' : TypeId) (m c : Nat) (hx : a.eval x = .slice (some ⟨w.heap.size, 0, none⟩) m c) (hl : news.length = m * size) (h1 : news.all (·.oneCell') = true)
    (h63 : n + m ≤ maxLen) (hbytes : (n + m) * bytes ≤ 140737488355328) (hbase : base ≤ w.heap.size)
    (h : ∀ v' w', Hid (w'.ownsRow base e size v' (n + m) (xs ++ news)) → Hid (w.grownBy w' v.ownBlock) → Hid (v'.ownBlock = v.ownBlock ∨ ∃ g, v'.ownBlock = some g ∧ w.heap.size ≤ g) → K (a.put o.dst v') w') :
    if Region.wanted o (yielded ops a.tmps) = true then Oper.wp P o a (w.alloc (.cells news.toArray e')) K Q else E := by
  have hw : Region.wanted o (yielded ops a.tmps) = true := by simp [Region.wanted, hgd]
  rw [if_pos hw]
  obtain ⟨i, hi, hz, hsize, hby⟩ := info_parts hinfo
  obtain ⟨v', w', hr, h2, h3, _, h5⟩ := run_append_own_at (P := P) (w.alloc (.cells news.toArray e')) base t o.type e i z size bytes ht hi hz hsize hby hzs hsz v n xs (hown.alloc _) ⟨w.heap.size, 0, none⟩ m c news hl (cell_news w news e') (fun u hu => List.all_eq_true.1 h1 u hu) h63 hbytes (by simp; omega)
  unfold Oper.wp execOp
  simp only [ho, resolve, invoke, builtin, Sem.run_bind, Sem.run_pure, Result.andThen_ok, List.map_toArray, List.map_cons, List.map_nil, hs, hx, hr]
  refine h v' w' h2 (grown_alloc h3) ?_
  rcases h5 with h5 | h5
  · exact .inl h5
  · exact .inr ⟨_, h5, by simp⟩
theorem grown_alloc_d {w w' : World} {ob : Obj} {row : Option Nat} (h : (w.alloc ob).drew.grownBy w' row) : w.grownBy w' row := grown_alloc (ob := ob) ⟨h.os, h.tape, h.output, h.size, h.block⟩
/-- behind a draw -/
theorem step_app_d {K : Act → World → Prop} {E : Prop} (hgd : o.guard = none) (s x : Operand) (t : TypeId) (ho : o.op = .call { callee := .builtin .append, args := #[s, x], argTypes := #[t, t] })
    (base : Nat) (e : TypeId) (z : Value) (size bytes : Nat) (ht : P.underlying t = some (.slice e)) (hinfo : (P.info? e).map (fun i => (i.zero, i.size, i.bytes)) = some (some z, size, bytes)) (hzs : z.cells.size = size) (hsz : 0 < size)
    (v : Value) (n : Nat) (xs : List Value) (hs : a.eval s = v) (hown : w.ownsRow base e size v n xs) (news : List Value) (e' : TypeId) (m c : Nat) (hx : a.eval x = .slice (some ⟨w.heap.size, 0, none⟩) m c) (hl : news.length = m * size) (h1 : news.all (·.oneCell') = true)
    (h63 : n + m ≤ maxLen) (hbytes : (n + m) * bytes ≤ 140737488355328) (hbase : base ≤ w.heap.size)
    (h : ∀ v' w', Hid (w'.ownsRow base e size v' (n + m) (xs ++ news)) → Hid (w.grownBy w' v.ownBlock) → Hid (v'.ownBlock = v.ownBlock ∨ ∃ g, v'.ownBlock = some g ∧ w.heap.size ≤ g) → K (a.put o.dst v') w') :
    if Region.wanted o (yielded ops a.tmps) = true then Oper.wp P o a (w.alloc (.cells news.toArray e')).drew K Q else E := by
  have hw : Region.wanted o (yielded ops a.tmps) = true := by simp [Region.wanted, hgd]
  rw [if_pos hw]
  obtain ⟨i, hi, hz, hsize, hby⟩ := info_parts hinfo
  have hsz1 : (w.alloc (.cells news.toArray e')).drew.heap.size = w.heap.size + 1 := by simp
  obtain ⟨v', w', hr, h2, h3, _, h5⟩ := run_append_own_at (P := P) (w.alloc (.cells news.toArray e')).drew base t o.type e i z size bytes ht hi hz hsize hby hzs hsz v n xs (own_drewN (hown.alloc (.cells news.toArray e')) 1) ⟨w.heap.size, 0, none⟩ m c news hl (cell_news w news e') (fun u hu => List.all_eq_true.1 h1 u hu) h63 hbytes (by omega)
  unfold Oper.wp execOp
  simp only [ho, resolve, invoke, builtin, Sem.run_bind, Sem.run_pure, Result.andThen_ok, List.map_toArray, List.map_cons, List.map_nil, hs, hx, hr]
  refine h v' w' h2 (grown_alloc_d h3) ?_
  rcases h5 with h5 | h5
  · exact .inl h5
  · exact .inr ⟨_, h5, by omega⟩
/-- append of a string's bytes -/
theorem wpList_apps (hgd : o.guard = none) (sl x : Operand) (t u : TypeId) (ho : o.op = .call { callee := .builtin .append, args := #[sl, x], argTypes := #[t, u] })
    (base : Nat) (e : TypeId) (ht : P.underlying t = some (.slice e)) (hu : P.underlying u = some .string) (hinfo : (P.info? e).map (fun i => (i.zero, i.size, i.bytes)) = some (some (.int .u8 0), 1, 1))
    (v : Value) (n : Nat) (xs : List Value) (hs : a.eval sl = v) (hown : w.ownsRow base e 1 v n xs) (s : ByteArray) (hx : a.eval x = .string s)
    (h63 : n + s.size ≤ maxLen) (hbytes : n + s.size ≤ 140737488355328) (hbase : base ≤ w.heap.size)
    (h : ∀ v' w', Hid (w'.ownsRow base e 1 v' (n + s.size) (xs ++ bytes s.data.toList)) → Hid (w.grownBy w' v.ownBlock) → Hid (v'.ownBlock = v.ownBlock ∨ ∃ g, v'.ownBlock = some g ∧ w.heap.size ≤ g) → wpList P ops Q rest (a.put o.dst v') w') : wpList P ops Q (o :: rest) a w := by
  obtain ⟨i, hi, hz, hsize, hby⟩ := info_parts hinfo
  refine wpList_plain hgd fun K hK => ?_
  obtain ⟨v', w', hr, h2, h3, h4⟩ := Lib.run_append_own_string (P := P) w base t u o.type e i ht hu hi hz hsize hby v n xs hown s h63 hbytes hbase
  have hlie : v'.ownBlock = v.ownBlock ∨ ∃ g, v'.ownBlock = some g ∧ w.heap.size ≤ g := by
    simp only [maxLen] at h63
    have hxl : xs.length = n := by simpa using hown.1
    rcases hown.2 with ⟨rfl, rfl⟩ | ⟨g, cap, cur, rfl, hbg, hg, hnc, hcm, hcs, htake⟩
    · by_cases hm : s.size = 0
      · rw [h4.2 ⟨rfl, hm⟩]; exact .inl rfl
      · have hr2 := run_append_nil_string (P := P) w t u o.type e i (.int .u8 0) ht hu hi hz s (by omega) (by omega) (by rw [hby]; omega)
        rw [hr2] at hr
        obtain ⟨rfl, _⟩ := Result.ok.inj hr
        exact .inr ⟨_, rfl, Nat.le_refl _⟩
    · by_cases hroom : n + s.size ≤ cap
      · have hcs' : cur.size = cap := by simpa using hcs
        have hr2 := Lib.run_append_room_string (P := P) w t u o.type e i ht hu hi hsize g n cap cur hg s hroom (by omega)
        rw [hr2] at hr
        obtain ⟨rfl, _⟩ := Result.ok.inj hr
        exact .inl rfl
      · have holds : ∀ j u, xs[j]? = some u → w.cell? ((⟨g, 0, none⟩ : Addr).add j) = some u := hown.cells (g := g) rfl
        have hr2 := Lib.run_append_grow_string (P := P) w t u o.type e i (.int .u8 0) ht hu hi hz ⟨g, 0, none⟩ n cap xs (by rw [hsize]; simpa using hxl) holds s (by omega) (by omega) (by rw [hby]; exact growslice_fits (by omega) (by omega))
        rw [hr2] at hr
        obtain ⟨rfl, _⟩ := Result.ok.inj hr
        exact .inr ⟨_, rfl, Nat.le_refl _⟩
  unfold Oper.wp execOp
  simp only [ho, resolve, invoke, builtin, Sem.run_bind, Sem.run_pure, Result.andThen_ok, List.map_toArray, List.map_cons, List.map_nil, hs, hx, hr]
  exact hK _ _ (h v' w' h2 h3 hlie)
/-- a whole array, or struct, is written over the block's own -/
theorem wpList_store_blk (hgd : o.guard = none) (hds : o.dst = none) (ty : TypeId) (x v : Operand) (ho : o.op = .store ty x v) (g : Nat) (hx : a.eval x = .pointer (some ⟨g, 0, none⟩)) (cs : List Value) (cs' : List Value) (hv : a.eval v = .agg cs'.toArray) (t : TypeId) (hg : Blk w g cs t)
    (n : Nat) (hi : (P.info? ty).map (·.size) = some n) (hn : cs.length = n) (hn' : cs'.length = n) (h1 : cs'.all (·.oneCell') = true)
    (h : wpList P ops Q rest a (w.setRow g cs'.toArray)) : wpList P ops Q (o :: rest) a w := by
  refine wpList_plain hgd fun K hK => ?_
  have hs := run_storeVar_row (P := P) w g t ty cs.toArray cs'.toArray hg (by rw [hi]; simp [hn']) (by simp [hn, hn']) (by simpa using h1)
  unfold Oper.wp execOp
  simp only [ho, hx, hv, Instr.storeAt, Instr.sureAddr, Sem.run_bind, Sem.run_pure, Result.andThen_ok, hs]
  show K (a.put o.dst undef) _
  rw [hds]
  exact hK _ _ h
end
end Go.Proofs.Ytgeeaddbapjikaa
