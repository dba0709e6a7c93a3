/- Maps of a call's own, keyed by numbers or texts, with elements of any shape: what a block holds, key by key. -/
import Derived.Test.YtiaknanflgdmoaaKit
import Derived.Maps.OwnSet
import Derived.Maps.OwnOps
import Derived.StringKeys
namespace Go.Proofs.Ytiaknanflgdmoaa
open Go.RowKit Go.Maps
set_option linter.unusedVariables false
set_option linter.unusedSimpArgs false
/-- A key's type, seen as a plain type. -/
structure Key (P : Program) (K : TypeId) (α : Type) where
  kv : α → Value
  ke : α → Lit
  ok : α → Prop
  keyed : Keyed P K
  of : ∀ x, ok x → keyOf P K (kv x) = some (ke x)
  inj : ∀ x y, ok x → ok y → ke x = ke y → x = y
def intKey {P : Program} {K : TypeId} {q : IntKind} (hk : P.underlying K = some (.int q)) : Key P K Int :=
  ⟨.int q, .int q, fun n => (Lit.int q n).wf = true, int_keyed hk, fun _ h => keyOf_int_mk hk h, fun x y _ _ h => by cases h; rfl⟩
def strKey {P : Program} {K : TypeId} (hk : P.underlying K = some .string) : Key P K ByteArray :=
  ⟨.string, fun s => .string s.data.toList, fun s => s.size ≤ maxLen, string_keyed hk, fun _ h => WideMaps.keyOf_string_mk hk h, fun x y _ _ h => by
    injection h with h; exact ByteArray.ext (Array.toList_inj.1 h)⟩
/-- A key of whatever shape (a struct ..). -/
def anyKey {P : Program} {K : TypeId} {α : Type} (hk : Keyed P K) (kv : α → Value) (hinj : ∀ x y, kv x = kv y → x = y) : Key P K α :=
  ⟨kv, fun x => (keyOf P K (kv x)).getD (.bool false), fun x => ∃ l, keyOf P K (kv x) = some l, hk, fun x ⟨l, h⟩ => by rw [h]; rfl, fun x y ⟨l, h⟩ ⟨m, h'⟩ e => by
    rw [h, h'] at e
    have e : l = m := e
    subst e
    exact hinj x y (hk.inj h h')⟩
def anyElem (v : Value) : Option (DataW Value × List MemPlace) := some (.held v, [])
def seen (r : Option Value) (z : DataW Value) : DataW Value := match r with | some v => .held v | none => z
/-- Block b is a map of at most n entries; at key x it holds g x. -/
def MapAt {P : Program} {K : TypeId} {α : Type} (w : World) (k : Key P K α) (b n : Nat) (g : α → Option Value) : Prop :=
  ∃ D : DataW Value, w.ownsMap P K anyElem b n D ∧ ∀ x, k.ok x → (∀ z, D.atKey (k.ke x) z = seen (g x) z) ∧ Maps.has D (k.ke x) = (g x).isSome
def setK {α : Type} [DecidableEq α] (g : α → Option Value) (x : α) (v : Value) : α → Option Value := fun y => if y = x then some v else g y
def delK {α : Type} [DecidableEq α] (g : α → Option Value) (x : α) : α → Option Value := fun y => if y = x then none else g y
section
variable {P : Program} {K : TypeId} {α : Type} {w : World} {k : Key P K α} {b n : Nat} {g : α → Option Value}
theorem MapAt.new (w : World) (k : Key P K α) : MapAt (w.alloc (.map #[] 0)) k w.heap.size 0 (fun _ => none) :=
  ⟨_, World.ownsMap_made w P K anyElem, fun x _ => ⟨fun z => rfl, rfl⟩⟩
theorem MapAt.lt (h : MapAt w k b n g) : b < w.heap.size := by obtain ⟨D, h, _⟩ := h; exact h.lt
theorem MapAt.mono (h : MapAt w k b n g) {m : Nat} (hm : n ≤ m) : MapAt w k b m g := by obtain ⟨D, h, e⟩ := h; exact ⟨D, h.mono hm, e⟩
theorem MapAt.fr {w' : World} {S : Nat → Prop} (h : MapAt w k b n g) (hf : Fr w w' S) (hs : ¬ S b) : MapAt w' k b n g := by
  obtain ⟨D, ⟨es, cl, hb, r⟩, e⟩ := h
  have hlt := (Array.getElem?_eq_some_iff.1 hb).1
  exact ⟨D, ⟨es, cl, (hf.block b hlt hs).trans hb, r⟩, e⟩
theorem MapAt.drewN (h : MapAt w k b n g) (m : Nat) : MapAt (w.drewN m) k b n g := h
theorem MapAt.drew (h : MapAt w k b n g) : MapAt w.drew k b n g := h
theorem MapAt.alloc (h : MapAt w k b n g) (o : Obj) : MapAt (w.alloc o) k b n g := h.fr ((Fr.refl w (fun _ => False)).alloc o) (fun e => e)
/-- The look-up's own equation. -/
theorem MapAt.look (h : MapAt w k b n g) {t e : TypeId} (ht : P.underlying t = some (.map K e)) {z : Value} (hz : (zeroValue e).run P w = .ok z w) (x : α) (hx : k.ok x) :
    (Instr.lookup t (.map (some b)) (k.kv x) true).run P w = .ok (.tuple #[(g x).getD z, .bool (g x).isSome]) w := by
  obtain ⟨D, hD, hg⟩ := h
  obtain ⟨v, ps, hrun, hv⟩ := hD.look_ok k.keyed ht hz (R := anyElem) rfl (k.of x hx)
  obtain ⟨h1, h2⟩ := hg x hx
  rw [hrun, h2]
  simp only [anyElem, Option.some.injEq, Prod.mk.injEq] at hv
  have := hv.1.trans (h1 (.held z))
  cases hgx : g x with
  | none => rw [hgx] at this; simp only [seen] at this; cases this; rfl
  | some u => rw [hgx] at this; simp only [seen] at this; cases this; rfl
theorem MapAt.look1 (h : MapAt w k b n g) {t e : TypeId} (ht : P.underlying t = some (.map K e)) {z : Value} (hz : (zeroValue e).run P w = .ok z w) (x : α) (hx : k.ok x) :
    (Instr.lookup t (.map (some b)) (k.kv x) false).run P w = .ok ((g x).getD z) w := by
  obtain ⟨D, hD, hg⟩ := h
  obtain ⟨v, ps, hrun, hv⟩ := hD.lookup k.keyed ht hz (R := anyElem) rfl (k.of x hx)
  obtain ⟨h1, h2⟩ := hg x hx
  rw [hrun]
  simp only [anyElem, Option.some.injEq, Prod.mk.injEq] at hv
  have := hv.1.trans (h1 (.held z))
  cases hgx : g x with
  | none => rw [hgx] at this; simp only [seen] at this; cases this; rfl
  | some u => rw [hgx] at this; simp only [seen] at this; cases this; rfl
variable [DecidableEq α]
/-- The store's. -/
theorem MapAt.store (h : MapAt w k b n g) {t e : TypeId} (ht : P.underlying t = some (.map K e)) (hn : n < maxLen) (x : α) (hx : k.ok x) (v : Value) :
    ∃ w', (Instr.mapUpdate t (.map (some b)) (k.kv x) v).run P w = .ok () w' ∧ MapAt w' k b (n + 1) (setK g x v) ∧ Fr w w' (fun j => j = b) := by
  obtain ⟨D, hD, hg⟩ := h
  obtain ⟨w', hrun, h1, h2⟩ := hD.store k.keyed ht hn (k.of x hx) (R := anyElem) (val := v) rfl
  refine ⟨w', hrun, ⟨_, h1, fun y hy => ?_⟩, Fr.of_grown h2.grown fun j e => by cases e; rfl⟩
  by_cases e : y = x
  · subst e
    unfold setK
    rw [if_pos rfl]
    exact ⟨fun z => atKey_put_same (hD.tidy k.keyed).isMap (k.keyed.key (k.of y hx)) _ z, has_put_same (hD.tidy k.keyed).isMap (k.keyed.key (k.of y hx)) _⟩
  · have hne : k.ke y ≠ k.ke x := fun e' => e (k.inj y x hy hx e')
    unfold setK
    rw [if_neg e]
    exact ⟨fun z => (atKey_put_other hne _ z).trans ((hg y hy).1 z), (has_put_other hne _).trans (hg y hy).2⟩
theorem MapAt.drop (h : MapAt w k b n g) {t e : TypeId} (ht : P.underlying t = some (.map K e)) (x : α) (hx : k.ok x) (ty : TypeId) :
    ∃ w', (Builtin.delete_ #[t, K] ty #[.map (some b), k.kv x]).run P w = .ok (.tuple #[]) w' ∧ MapAt w' k b n (delK g x) ∧ Fr w w' (fun j => j = b) := by
  obtain ⟨D, hD, hg⟩ := h
  obtain ⟨w', hrun, h1, h2⟩ := hD.drop k.keyed ht (k.of x hx) ty
  refine ⟨w', hrun, ⟨_, h1, fun y hy => ?_⟩, Fr.of_grown h2.grown fun j e => by cases e; rfl⟩
  by_cases e : y = x
  · subst e
    unfold delK
    rw [if_pos rfl]
    exact ⟨fun z => atKey_del_same z, has_del_same⟩
  · have hne : k.ke y ≠ k.ke x := fun e' => e (k.inj y x hy hx e')
    unfold delK
    rw [if_neg e]
    exact ⟨fun z => (atKey_del_other hne z).trans ((hg y hy).1 z), (has_del_other hne).trans (hg y hy).2⟩
end
/-! ### at the operation -/
section
variable {P : Program} {K : TypeId} {α : Type} {k : Key P K α} (w : World) {ops : Array Oper} {rest : List Oper} {o : Oper} {a : Act} {Q : Exit → Act → World → Prop}
theorem wpList_look (hg : o.guard = none) (m x : Operand) (t : TypeId) (hop : o.op = Op.lookup t m x true) (e : TypeId) (ht : P.underlying t = some (.map K e)) {z : Value} (hz : (zeroValue e).run P w = .ok z w)
    (b n : Nat) (g : α → Option Value) (hm : a.eval m = .map (some b)) (hM : MapAt w k b n g) (y : α) (hx : a.eval x = k.kv y) (hy : k.ok y) (v : Value) (f : Bool) (hv : (g y).getD z = v) (hf : (g y).isSome = f)
    (hK : wpList P ops Q rest (a.put o.dst (.tuple #[v, .bool f])) w) : wpList P ops Q (o :: rest) a w := by
  refine wpList_plain hg fun K' hK' => ?_
  have hrun := hM.look ht hz y hy
  rw [hv, hf] at hrun
  unfold Oper.wp
  simp [execOp, hop, hm, hx, hrun, Result.andThen]
  exact hK' _ _ hK
theorem wpList_look1 (hg : o.guard = none) (m x : Operand) (t : TypeId) (hop : o.op = Op.lookup t m x false) (e : TypeId) (ht : P.underlying t = some (.map K e)) {z : Value} (hz : (zeroValue e).run P w = .ok z w)
    (b n : Nat) (g : α → Option Value) (hm : a.eval m = .map (some b)) (hM : MapAt w k b n g) (y : α) (hx : a.eval x = k.kv y) (hy : k.ok y) (v : Value) (hv : (g y).getD z = v)
    (hK : wpList P ops Q rest (a.put o.dst v) w) : wpList P ops Q (o :: rest) a w := by
  refine wpList_plain hg fun K' hK' => ?_
  have hrun := hM.look1 ht hz y hy
  rw [hv] at hrun
  unfold Oper.wp
  simp [execOp, hop, hm, hx, hrun, Result.andThen]
  exact hK' _ _ hK
variable [DecidableEq α]
theorem wpList_upd (hg : o.guard = none) (m x v : Operand) (t : TypeId) (hop : o.op = Op.mapUpdate t m x v) (e : TypeId) (ht : P.underlying t = some (.map K e))
    (b n : Nat) (g : α → Option Value) (hm : a.eval m = .map (some b)) (hM : MapAt w k b n g) (hn : n < maxLen) (y : α) (hx : a.eval x = k.kv y) (hy : k.ok y) (u : Value) (hv : a.eval v = u)
    (hK : ∀ w', Hid (MapAt w' k b (n + 1) (setK g y u)) → Hid (Fr w w' (fun j => j = b)) → wpList P ops Q rest (a.put o.dst undef) w') : wpList P ops Q (o :: rest) a w := by
  refine wpList_plain hg fun K' hK' => ?_
  obtain ⟨w', hrun, r1, r2⟩ := hM.store ht hn y hy u
  unfold Oper.wp
  simp [execOp, hop, hm, hx, hv, hrun, Result.andThen]
  exact hK' _ _ (hK w' (Lib.hid r1) (Lib.hid r2))
theorem wpList_del (hg : o.guard = none) (m x : Operand) (t : TypeId) (hop : o.op = Op.call { callee := Callee.builtin Builtin.delete, args := #[m, x], argTypes := #[t, K] }) (e : TypeId) (ht : P.underlying t = some (.map K e))
    (b n : Nat) (g : α → Option Value) (hm : a.eval m = .map (some b)) (hM : MapAt w k b n g) (y : α) (hx : a.eval x = k.kv y) (hy : k.ok y)
    (hK : ∀ w', Hid (MapAt w' k b n (delK g y)) → Hid (Fr w w' (fun j => j = b)) → wpList P ops Q rest (a.put o.dst (.tuple #[])) w') : wpList P ops Q (o :: rest) a w := by
  obtain ⟨D, hD, hgg⟩ := hM
  refine wpList_delete_own w hg m x t K hop e k.keyed ht anyElem b n D hm hD (k.kv y) (k.ke y) hx (k.of y hy) fun w' h1 h2 => ?_
  have hM' : MapAt w' k b n (delK g y) := by
    refine ⟨_, h1, fun y' hy' => ?_⟩
    by_cases e : y' = y
    · subst e
      unfold delK
      rw [if_pos rfl]
      exact ⟨fun z => atKey_del_same z, has_del_same⟩
    · have hne : k.ke y' ≠ k.ke y := fun e' => e (k.inj y' y hy' hy e')
      unfold delK
      rw [if_neg e]
      exact ⟨fun z => (atKey_del_other hne z).trans ((hgg y' hy').1 z), (has_del_other hne).trans (hgg y' hy').2⟩
  exact hK w' (Lib.hid hM') (Lib.hid (Fr.of_grown h2.grown fun j e => by cases e; rfl))
end
end Go.Proofs.Ytiaknanflgdmoaa
