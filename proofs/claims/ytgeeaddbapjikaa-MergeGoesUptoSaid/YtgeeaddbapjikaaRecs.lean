/- A call's own slice of records (flat structs), record by record. -/
import Derived.Test.YtgeeaddbapjikaaKit
import Derived.Deep.MidRow
import Derived.Laws.IdiomCopy
namespace Go.Proofs.Ytgeeaddbapjikaa
open Go.RowKit
set_option linter.unusedVariables false
set_option linter.unusedSimpArgs false
theorem flatten_get {α : Type} {sz : Nat} : ∀ {rs : List (List α)} (_ : ∀ r ∈ rs, r.length = sz) {i j : Nat} {r : List α} (_ : rs[i]? = some r) (_ : j < sz), rs.flatten[i * sz + j]? = r[j]?
  | [], _, i, j, r, h, _ => by simp at h
  | a :: rs, hl, 0, j, r, h, hj => by
    simp at h; subst h
    have := hl a (List.mem_cons_self ..)
    rw [List.flatten_cons, Nat.zero_mul, Nat.zero_add, List.getElem?_append_left (by omega)]
  | a :: rs, hl, i + 1, j, r, h, hj => by
    have h0 := hl a (List.mem_cons_self ..)
    rw [List.flatten_cons, Nat.add_mul, List.getElem?_append_right (by omega)]
    have := flatten_get (rs := rs) (fun r hr => hl r (List.mem_cons_of_mem _ hr)) (i := i) (j := j) (r := r) (by simpa using h) hj
    rw [← this]; congr 1; omega
theorem flatten_set {α : Type} {sz : Nat} : ∀ {rs : List (List α)} (_ : ∀ r ∈ rs, r.length = sz) {i j : Nat} {r : List α} (_ : rs[i]? = some r) (_ : j < sz) (u : α), rs.flatten.set (i * sz + j) u = (rs.set i (r.set j u)).flatten
  | [], _, i, j, r, h, _, _ => by simp at h
  | a :: rs, hl, 0, j, r, h, hj, u => by
    simp at h; subst h
    have := hl a (List.mem_cons_self ..)
    rw [List.flatten_cons, Nat.zero_mul, Nat.zero_add, List.set_append_left _ _ (by omega)]; rfl
  | a :: rs, hl, i + 1, j, r, h, hj, u => by
    have h0 := hl a (List.mem_cons_self ..)
    rw [List.flatten_cons, Nat.add_mul, List.set_append_right _ _ (by omega)]
    have := flatten_set (rs := rs) (fun r hr => hl r (List.mem_cons_of_mem _ hr)) (i := i) (j := j) (r := r) (by simpa using h) hj u
    rw [List.set_cons_succ, List.flatten_cons, ← this]; congr 2; omega
theorem flatten_len {α : Type} {sz : Nat} : ∀ {rs : List (List α)} (_ : ∀ r ∈ rs, r.length = sz), rs.flatten.length = rs.length * sz
  | [], _ => by simp
  | a :: rs, hl => by
    have h0 := hl a (List.mem_cons_self ..)
    rw [List.flatten_cons, List.length_append, flatten_len (fun r hr => hl r (List.mem_cons_of_mem _ hr)), List.length_cons, Nat.add_mul]; omega
/-- v is a slice of the call's own, of the records rs of sz cells each. -/
structure Recs (w : World) (base : Nat) (e : TypeId) (sz : Nat) (v : Value) (rs : List (List Value)) : Prop where
  own : w.ownsRow base e sz v rs.length rs.flatten
  len : ∀ r ∈ rs, r.length = sz
section
variable {w : World} {base : Nat} {e : TypeId} {sz : Nat} {v : Value} {rs : List (List Value)}
theorem Recs.nil (w : World) (base : Nat) (e : TypeId) (sz : Nat) : Recs w base e sz (.slice none 0 0) [] := ⟨World.ownsRow_nil _ _ _ _, fun r h => by cases h⟩
theorem Recs.slice (h : Recs w base e sz v rs) : ∃ A cap, v = .slice A rs.length cap := by
  rcases h.own.2 with ⟨hv, h0⟩ | ⟨g, cap, cur, hv, _⟩
  · exact ⟨none, 0, by rw [h0]; exact hv⟩
  · exact ⟨some ⟨g, 0, none⟩, cap, hv⟩
theorem Recs.len_le (h : Recs w base e sz v rs) : rs.length ≤ maxLen := by
  rcases h.own.2 with ⟨hv, h0⟩ | ⟨g, cap, cur, hv, _, _, h1, h2, _⟩
  · omega
  · omega
theorem Recs.some (h : Recs w base e sz v rs) (hn : 0 < rs.length) : ∃ g cap, v = .slice (.some ⟨g, 0, none⟩) rs.length cap ∧ base ≤ g ∧ g < w.heap.size ∧ (∀ (i : Nat) (r : List Value) (j : Nat) (u : Value), rs[i]? = .some r → r[j]? = .some u → w.cell? ⟨g, i * sz + j, none⟩ = .some u) ∧ ∀ j, w.frozen? ⟨g, j, none⟩ = false := by
  obtain ⟨g, cap, rfl, hg, hlt, hC⟩ := own_some h.own hn
  refine ⟨g, cap, rfl, hg, hlt, fun i r j u hi hj => ?_, fun j => h.own.frozenAt j⟩
  have hil : i < rs.length := (List.getElem?_eq_some_iff.1 hi).1
  have hjl : j < sz := by have := (List.getElem?_eq_some_iff.1 hj).1; have := h.len r (List.mem_of_getElem? hi); omega
  have hlt : i * sz + j < rs.length * sz := by
    have : (i + 1) * sz ≤ rs.length * sz := Nat.mul_le_mul_right _ (by omega)
    rw [Nat.add_mul] at this; omega
  rw [h.own.cellAt _ hlt, flatten_get h.len hi hjl, hj]
theorem Recs.fr {w' : World} {S : Nat → Prop} (h : Recs w base e sz v rs) (hf : Fr w w' S) (hs : ∀ k, v.ownBlock = .some k → ¬ S k) : Recs w' base e sz v rs := ⟨own_fr h.own hf hs, h.len⟩
theorem Recs.alloc (h : Recs w base e sz v rs) (o : Obj) : Recs (w.alloc o) base e sz v rs := ⟨h.own.alloc o, h.len⟩
theorem Recs.drewN (h : Recs w base e sz v rs) (n : Nat) : Recs (w.drewN n) base e sz v rs := ⟨own_drewN h.own n, h.len⟩
theorem Recs.set {g n cap : Nat} (h : Recs w base e sz (.slice (.some ⟨g, 0, none⟩) n cap) rs) {i j : Nat} {r : List Value} (hi : rs[i]? = .some r) (hj : j < sz) (u : Value) :
    Recs (w.setCell ⟨g, i * sz + j, none⟩ u) base e sz (.slice (.some ⟨g, 0, none⟩) n cap) (rs.set i (r.set j u)) := by
  obtain ⟨A, c', hv⟩ := h.slice
  cases hv
  have := (h.own.stored (i * sz + j) u).1
  rw [flatten_set h.len hi hj] at this
  refine ⟨by rw [List.length_set]; exact this, fun x hx => ?_⟩
  rcases List.mem_or_eq_of_mem_set hx with hx | rfl
  · exact h.len x hx
  · rw [List.length_set]; exact h.len r (List.mem_of_getElem? hi)
theorem get_set {α : Type} {rs : List α} {i : Nat} {r : α} (hi : rs[i]? = .some r) (x : α) : (rs.set i x)[i]? = .some x := by
  rw [List.getElem?_set_self (List.getElem?_eq_some_iff.1 hi).1]
/-- a whole record, stored cell by cell -/
theorem Recs.put2 {g n cap : Nat} (h : Recs w base e 2 (.slice (.some ⟨g, 0, none⟩) n cap) rs) {i : Nat} {r : List Value} (hi : rs[i]? = .some r) (a b : Value) :
    Recs ((w.setCell ⟨g, i * 2, none⟩ a).setCell ⟨g, i * 2 + 1, none⟩ b) base e 2 (.slice (.some ⟨g, 0, none⟩) n cap) (rs.set i [a, b]) := by
  have hl := h.len r (List.mem_of_getElem? hi)
  obtain ⟨x0, x1, rfl⟩ : ∃ x0 x1, r = [x0, x1] := by
    match r, hl with
    | [x0, x1], _ => exact ⟨x0, x1, rfl⟩
  have h1 := h.set hi (j := 0) (by decide) a
  have h2 := h1.set (get_set hi _) (j := 1) (by decide) b
  simpa using h2
theorem Recs.put3 {g n cap : Nat} (h : Recs w base e 3 (.slice (.some ⟨g, 0, none⟩) n cap) rs) {i : Nat} {r : List Value} (hi : rs[i]? = .some r) (a b c : Value) :
    Recs (((w.setCell ⟨g, i * 3, none⟩ a).setCell ⟨g, i * 3 + 1, none⟩ b).setCell ⟨g, i * 3 + 2, none⟩ c) base e 3 (.slice (.some ⟨g, 0, none⟩) n cap) (rs.set i [a, b, c]) := by
  have hl := h.len r (List.mem_of_getElem? hi)
  obtain ⟨x0, x1, x2, rfl⟩ : ∃ x0 x1 x2, r = [x0, x1, x2] := by
    match r, hl with
    | [x0, x1, x2], _ => exact ⟨x0, x1, x2, rfl⟩
  have h1 := h.set hi (j := 0) (by decide) a
  have h2 := h1.set (get_set hi _) (j := 1) (by decide) b
  have h3 := h2.set (get_set (get_set hi _) _) (j := 2) (by decide) c
  simpa using h3
theorem Recs.put4 {g n cap : Nat} (h : Recs w base e 4 (.slice (.some ⟨g, 0, none⟩) n cap) rs) {i : Nat} {r : List Value} (hi : rs[i]? = .some r) (a b c d : Value) :
    Recs ((((w.setCell ⟨g, i * 4, none⟩ a).setCell ⟨g, i * 4 + 1, none⟩ b).setCell ⟨g, i * 4 + 2, none⟩ c).setCell ⟨g, i * 4 + 3, none⟩ d) base e 4 (.slice (.some ⟨g, 0, none⟩) n cap) (rs.set i [a, b, c, d]) := by
  have hl := h.len r (List.mem_of_getElem? hi)
  obtain ⟨x0, x1, x2, x3, rfl⟩ : ∃ x0 x1 x2 x3, r = [x0, x1, x2, x3] := by
    match r, hl with
    | [x0, x1, x2, x3], _ => exact ⟨x0, x1, x2, x3, rfl⟩
  have h1 := h.set hi (j := 0) (by decide) a
  have h2 := h1.set (get_set hi _) (j := 1) (by decide) b
  have h3 := h2.set (get_set (get_set hi _) _) (j := 2) (by decide) c
  have h4 := h3.set (get_set (get_set (get_set hi _) _) _) (j := 3) (by decide) d
  simpa using h4
theorem Recs.app {w' : World} {v' : Value} (h : Recs w base e sz v rs) (r : List Value) (hr : r.length = sz) (hO : w'.ownsRow base e sz v' (rs.length + 1) (rs.flatten ++ r)) : Recs w' base e sz v' (rs ++ [r]) := by
  refine ⟨by simpa using hO, fun x hx => ?_⟩
  rcases List.mem_append.1 hx with hx | hx
  · exact h.len x hx
  · rw [List.mem_singleton.1 hx]; exact hr
end
/-! ### a stretch of cells, stored at once -/
def setL {α : Type} (xs : List α) (o : Nat) : List α → List α
  | [] => xs
  | v :: vs => setL (xs.set o v) (o + 1) vs
theorem setL_eq {α : Type} : ∀ (vs xs : List α) (o : Nat), o + vs.length ≤ xs.length → setL xs o vs = xs.take o ++ vs ++ xs.drop (o + vs.length)
  | [], xs, o, _ => by simp [setL]
  | v :: vs, xs, o, h => by
    simp only [List.length_cons] at h
    rw [setL, setL_eq vs (xs.set o v) (o + 1) (by rw [List.length_set]; omega)]
    have h1 : (xs.set o v).take (o + 1) = xs.take o ++ [v] := by
      rw [List.take_succ_eq_append_getElem (by rw [List.length_set]; omega), List.take_set_of_le (by omega)]
      simp
    have h2 : (xs.set o v).drop (o + 1 + vs.length) = xs.drop (o + (v :: vs).length) := by
      rw [List.drop_set_of_lt (by omega)]
      congr 1; simp only [List.length_cons]; omega
    rw [h1, h2]; simp
/-- 'clear' of one element of several cells -/
theorem run_clear_one {P : Program} (w : World) (t e ty : TypeId) (z : Value) (zs : List Value) (ht : P.underlying t = .some (.slice e)) (hv : ∀ w, (zeroValue e).run P w = .ok z w) (hz : z.cells = zs.toArray) (h1 : ∀ u ∈ zs, u.oneCell' = true) (b o c : Nat)
    (hc : ∀ j, j < zs.length → (w.cell? ⟨b, o + j, none⟩).isSome = true) (hf : ∀ j, j < zs.length → w.frozen? ⟨b, o + j, none⟩ = false) :
    (Builtin.clear_ #[t] ty #[.slice (.some ⟨b, o, none⟩) 1 c]).run P w = .ok (.tuple #[]) (w.setCells b o zs) := by
  have hzc : (Builtin.zeroCells z.cells 1).toList = zs := by
    rw [hz]
    simp [Builtin.zeroCells]
    apply List.ext_getElem
    · simp
    · intro i h1 h2
      have : i < zs.length := h2
      simp [Nat.mod_eq_of_lt this, List.getElem?_eq_getElem this]
  have hst := run_storeCells_cells (P := P) b o zs 0 w (by simpa using hc) (by simpa using hf) h1
  simp only [Nat.add_zero] at hst
  simp [Builtin.clear_, run_underlying ht, hv, hzc, hst]
theorem own_setCells {base : Nat} {e : TypeId} {size g n cap : Nat} : ∀ (vs xs : List Value) (o : Nat) (w : World), w.ownsRow base e size (.slice (some ⟨g, 0, none⟩) n cap) n xs → (w.setCells g o vs).ownsRow base e size (.slice (some ⟨g, 0, none⟩) n cap) n (setL xs o vs)
  | [], _, _, _, h => h
  | v :: vs, xs, o, w, h => own_setCells vs (xs.set o v) (o + 1) _ (h.stored o v).1
theorem fr_setCells (g : Nat) : ∀ (vs : List Value) (o : Nat) (w : World), Fr w (w.setCells g o vs) (fun k => k = g)
  | [], _, _ => Fr.refl _ _
  | v :: vs, o, w => ((Fr.refl w (fun k => k = g)).setCell ⟨g, o, none⟩ v fun _ => rfl).trans (fr_setCells g vs (o + 1) _) fun _ _ e => e
theorem own_cut {w : World} {base : Nat} {e : TypeId} {size g n cap m : Nat} {xs : List Value} (h : w.ownsRow base e size (.slice (some ⟨g, 0, none⟩) n cap) n xs) (hm : m ≤ n) :
    w.ownsRow base e size (.slice (some ⟨g, 0, none⟩) m cap) m (xs.take (m * size)) := by
  have hle : m * size ≤ n * size := Nat.mul_le_mul_right _ hm
  refine ⟨by rw [List.length_take, h.1]; omega, ?_⟩
  rcases h.2 with ⟨hv, _⟩ | ⟨g', cap', cur, hv, hbg, hg, hnc, hcm, hcs, htake⟩
  · cases hv
  · cases hv
    exact .inr ⟨g, cap, cur, rfl, hbg, hg, by omega, hcm, hcs, by rw [← htake, List.take_take, Nat.min_eq_left hle]⟩
/-! ### a slice in a cell of block b, that grows -/
def FieldS (b : Nat) (v : Value) : Nat → Prop := fun k => k = b ∨ v.ownBlock = some k
structure FieldR (w : World) (b : Nat) (v : Value) (w' : World) (v' : Value) : Prop where
  lies : v'.ownBlock = v.ownBlock ∨ ∃ g, v'.ownBlock = some g ∧ w.heap.size ≤ g
  fr : Fr w w' (FieldS b v)
theorem FieldR.refl (w : World) (b : Nat) (v : Value) : FieldR w b v w v := ⟨.inl rfl, Fr.refl _ _⟩
theorem FieldR.trans {a c d : World} {b : Nat} {v v' v'' : Value} (h : FieldR a b v c v') (k : FieldR c b v' d v'') : FieldR a b v d v'' := by
  refine ⟨?_, h.fr.trans k.fr ?_⟩
  · rcases k.lies with e | ⟨g, e, hg⟩
    · rw [e]; exact h.lies
    · exact .inr ⟨g, e, Nat.le_trans h.fr.size hg⟩
  · intro x hx hs
    rcases hs with rfl | e
    · exact .inl rfl
    · rcases h.lies with e' | ⟨g, e', hg⟩
      · exact .inr (e' ▸ e)
      · rw [e'] at e; have := Option.some.inj e; omega
theorem FieldR.alloc {w w' : World} {b : Nat} {v v' : Value} (h : FieldR w b v w' v') (o : Obj) : FieldR w b v (w'.alloc o) v' := ⟨h.lies, h.fr.alloc o⟩
theorem FieldR.drewN {w w' : World} {b : Nat} {v v' : Value} (h : FieldR w b v w' v') (n : Nat) : FieldR w b v (w'.drewN n) v' := ⟨h.lies, h.fr.drewN n⟩
theorem FieldR.setCell {w w' : World} {b : Nat} {v v' : Value} (h : FieldR w b v w' v') (a : Addr) (u : Value) (ha : a.block < w.heap.size → a.block = b ∨ v.ownBlock = some a.block) : FieldR w b v (w'.setCell a u) v' := ⟨h.lies, h.fr.setCell a u ha⟩
theorem FieldR.grown {w w' : World} {b : Nat} {v v' : Value} (hG : w.grownBy w' v.ownBlock) (hN : v'.ownBlock = v.ownBlock ∨ ∃ g, v'.ownBlock = some g ∧ w.heap.size ≤ g) : FieldR w b v w' v' :=
  ⟨hN, Fr.of_grown hG fun k e => .inr e⟩
theorem FieldR.below {w w' : World} {b : Nat} {v v' : Value} (h : FieldR w b v w' v') {B : Nat} (hb : B ≤ b) (hv : ∀ k, v.ownBlock = some k → B ≤ k) (hs : B ≤ w.heap.size) : Below B w w' :=
  h.fr.below (fun k _ e => by rcases e with rfl | e; exact hb; exact hv k e) hs
theorem FieldR.below2 {w w1 w2 : World} {b : Nat} {v v1 : Value} (h : FieldR w b v w1 v1) (hb : Below w1.heap.size w1 w2) : FieldR w b v w2 v1 :=
  ⟨h.lies, h.fr.trans (Fr.of_below (S := fun k => w1.heap.size ≤ k) hb fun k e _ => e) fun x hx e => by have := h.fr.size; omega⟩
/-- another slice's row is kept -/
theorem FieldR.off {w w' : World} {b : Nat} {v v' : Value} (h : FieldR w b v w' v') {k : Nat} (hk : k < w.heap.size) (hb : k ≠ b) (hv : v.ownBlock ≠ some k) : v'.ownBlock ≠ some k := by
  intro e
  rcases h.lies with e' | ⟨g, e', hg⟩
  · exact hv (e' ▸ e)
  · rw [e'] at e; have := Option.some.inj e; omega
end Go.Proofs.Ytgeeaddbapjikaa
