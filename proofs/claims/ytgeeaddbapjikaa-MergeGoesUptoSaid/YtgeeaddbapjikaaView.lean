/- Slices that are only read: a value whose cells are known; append of such a slice. -/
import Derived.Test.YtgeeaddbapjikaaRead
import Derived.Deep.AppendLies
import Derived.RegionTactic
namespace Go.Proofs.Ytgeeaddbapjikaa
open Go.RowKit
set_option linter.unusedVariables false
set_option linter.unusedSimpArgs false
/-- The slice holds the cells xs, n elements of so many cells. -/
def Vw (w : World) (size : Nat) (p : Option Addr) (n c : Nat) (xs : List Value) : Prop :=
  n ≤ c ∧ xs.length = n * size ∧ (0 < n → ∃ b off, p = some ⟨b, off, none⟩ ∧ b < w.heap.size ∧ ∀ j u, xs[j]? = some u → w.cell? ⟨b, off + j, none⟩ = some u)
theorem Vw.nil (w : World) (size : Nat) (p : Option Addr) (c : Nat) : Vw w size p 0 c [] := ⟨Nat.zero_le _, by simp, fun h => absurd h (by omega)⟩
theorem Vw.below {w w' : World} {size n c N : Nat} {p : Option Addr} {xs : List Value} (h : Vw w size p n c xs) (hb : Below N w w') (hN : w.heap.size ≤ N) : Vw w' size p n c xs :=
  ⟨h.1, h.2.1, fun hn => by
    obtain ⟨b, off, e, hlt, hc⟩ := h.2.2 hn
    exact ⟨b, off, e, Nat.lt_of_lt_of_le hlt hb.size, fun j u hu => (hb.cell (p := ⟨b, off + j, none⟩) (Nat.lt_of_lt_of_le hlt hN)).trans (hc j u hu)⟩⟩
theorem Vw.drewN {w : World} {size n c : Nat} {p : Option Addr} {xs : List Value} (h : Vw w size p n c xs) (k : Nat) : Vw (w.drewN k) size p n c xs := h
theorem Vw.alloc {w : World} {size n c : Nat} {p : Option Addr} {xs : List Value} (h : Vw w size p n c xs) (o : Obj) : Vw (w.alloc o) size p n c xs :=
  h.below ((Below.refl _ w).alloc (Nat.le_refl _) o) (Nat.le_refl _)
theorem Vw.fr {w w' : World} {size n c : Nat} {p : Option Addr} {xs : List Value} {S : Nat → Prop} (h : Vw w size p n c xs) (hf : Fr w w' S) (hS : ∀ a, p = some a → a.block < w.heap.size → ¬ S a.block) : Vw w' size p n c xs :=
  ⟨h.1, h.2.1, fun hn => by
    obtain ⟨b, off, e, hlt, hc⟩ := h.2.2 hn
    exact ⟨b, off, e, Nat.lt_of_lt_of_le hlt hf.size, fun j u hu => (hf.cell (p := ⟨b, off + j, none⟩) hlt (hS ⟨b, off, none⟩ e hlt)).trans (hc j u hu)⟩⟩
theorem Vw.of_own {w : World} {base : Nat} {e : TypeId} {size n : Nat} {v : Value} {xs : List Value} (h : w.ownsRow base e size v n xs) : ∃ p c, v = .slice p n c ∧ Vw w size p n c xs := by
  rcases h with ⟨hl, ⟨rfl, h0⟩ | ⟨g, cap, cur, rfl, hb, hh, hnc, hcm, hcs, htake⟩⟩
  · subst h0
    exact ⟨none, 0, rfl, Nat.le_refl _, hl, fun h => absurd h (by omega)⟩
  · have ho : w.ownsRow base e size (.slice (some ⟨g, 0, none⟩) n cap) n xs := ⟨hl, .inr ⟨g, cap, cur, rfl, hb, hh, hnc, hcm, hcs, htake⟩⟩
    refine ⟨_, cap, rfl, hnc, hl, fun hn => ⟨g, 0, rfl, (Array.getElem?_eq_some_iff.1 hh).1, fun j u hu => ?_⟩⟩
    rw [Nat.zero_add]
    have hj := (List.getElem?_eq_some_iff.1 hu).1
    have h2 := ho.cells (g := g) rfl j u hu
    unfold Addr.add at h2
    split at h2
    · subst_vars; exact h2
    · simpa using h2
theorem Vw.of_own_at {w : World} {base : Nat} {e : TypeId} {size n c : Nat} {p : Option Addr} {xs : List Value} (h : w.ownsRow base e size (.slice p n c) n xs) : Vw w size p n c xs := by
  obtain ⟨p', c', hv, h'⟩ := Vw.of_own h
  cases hv
  exact h'
theorem Vw.at1 {w : World} {n c : Nat} {p : Option Addr} {xs : List Value} (h : Vw w 1 p n c xs) {i : Nat} {u : Value} (hu : xs[i]? = some u) : ∃ b off, p = some ⟨b, off, none⟩ ∧ b < w.heap.size ∧ w.cell? ⟨b, off + i, none⟩ = some u := by
  have hl := (List.getElem?_eq_some_iff.1 hu).1
  obtain ⟨b, off, e, hlt, hc⟩ := h.2.2 (by have := h.2.1; omega)
  exact ⟨b, off, e, hlt, hc i u hu⟩
theorem vw_rsl1 {α : Type} {bytes : Nat} {en : α → Value} {Wf : α → Prop} {w : World} {a : Option Addr} {n c : Nat} {xs : List α} (h : RSl 1 bytes (fun _ cs (x : α) => cs = [en x] ∧ Wf x) w [.slice a n c] xs) :
    xs.length = n ∧ c * bytes ≤ 140737488351232 ∧ (∀ x ∈ xs, Wf x) ∧ Vw w 1 a n c (xs.map en) := by
  obtain ⟨h1, h2, h3, h4, h5⟩ := rsl_get (en := fun x => [en x]) h
  refine ⟨h1, h3, fun x hx => ?_, h2, by simp [h1], fun hn => ?_⟩
  · obtain ⟨j, hj⟩ := List.mem_iff_getElem?.1 hx
    obtain ⟨b, off, _, _, hw, _⟩ := h5 j x hj
    exact hw
  · obtain ⟨x, hx⟩ : ∃ x, xs[0]? = some x := ⟨xs[0]'(by omega), List.getElem?_eq_getElem _⟩
    obtain ⟨b, off, e, hlt, _, _⟩ := h5 0 x hx
    refine ⟨b, off, e, hlt, fun j u hu => ?_⟩
    rw [List.getElem?_map] at hu
    obtain ⟨y, hy, rfl⟩ := Option.map_eq_some_iff.1 hu
    obtain ⟨b', off', e', _, _, hcell⟩ := h5 j y hy
    rw [e] at e'
    cases e'
    have := hcell 0 (en y) rfl
    simpa using this
section
variable {P : Program} {ops : Array Oper} {rest : List Oper} {o : Oper} {a : Act} {w : World} {Q : Exit → Act → World → Prop}
/-- 'append(v, x...)' of a slice that is only read; nil, too -/
theorem run_appv (w : World) (base : Nat) (t ty e : TypeId) (z : Value) (size bytes : Nat) (ht : P.underlying t = some (.slice e)) (hinfo : (P.info? e).map (fun i => (i.zero, i.size, i.bytes)) = some (some z, size, bytes)) (hzs : z.cells.size = size) (hsz : 0 < size)
    (v : Value) (n : Nat) (xs : List Value) (hown : w.ownsRow base e size v n xs) (p : Option Addr) (m c : Nat) (news : List Value) (hr : Vw w size p m c news) (h1 : ∀ u ∈ news, u.oneCell' = true)
    (h63 : n + m ≤ maxLen) (hbytes : (n + m) * bytes ≤ 140737488355328) (hbase : base ≤ w.heap.size) :
    ∃ v' w', (Builtin.append_ #[t, t] ty #[v, .slice p m c]).run P w = .ok v' w' ∧ w'.ownsRow base e size v' (n + m) (xs ++ news) ∧ w.grownBy w' v.ownBlock ∧ (v'.ownBlock = v.ownBlock ∨ v'.ownBlock = some w.heap.size) := by
  obtain ⟨i, hi, hz, hsize, hby⟩ := info_parts hinfo
  by_cases hm : m = 0
  · subst hm
    obtain rfl : news = [] := List.eq_nil_of_length_eq_zero (by simpa using hr.2.1)
    rcases p with _ | ad
    · refine ⟨v, w, ?_, by simpa using hown, World.grownBy.refl w _, .inl rfl⟩
      rcases hown.2 with ⟨rfl, rfl⟩ | ⟨g, cap, cur, rfl, _, _, hnc, _⟩
      · simp [Builtin.append_, run_underlying ht, sizeOf, typeInfo, hi, Builtin.lenOf, Builtin.firstCells]
      · simp [Builtin.append_, run_underlying ht, sizeOf, typeInfo, hi, Builtin.lenOf, Builtin.firstCells, hnc, storeCells]
    · obtain ⟨v', w', hr, h2, h3, _, h5⟩ := run_append_own_at (P := P) w base t ty e i z size bytes ht hi hz hsize hby hzs hsz v n xs hown ad 0 c [] (by simp) (fun j u hu => by simp at hu) (fun u hu => by simp at hu) h63 hbytes hbase
      exact ⟨v', w', hr, h2, h3, h5⟩
  · obtain ⟨b, off, rfl, hlt, hc⟩ := hr.2.2 (by omega)
    obtain ⟨v', w', hr, h2, h3, _, h5⟩ := run_append_own_at (P := P) w base t ty e i z size bytes ht hi hz hsize hby hzs hsz v n xs hown ⟨b, off, none⟩ m c news hr.2.1 (fun j u hu => by
      have e1 : (⟨b, off, none⟩ : Addr).add j = ⟨b, off + j, none⟩ := by unfold Addr.add; split <;> simp_all
      rw [e1]; exact hc j u hu) h1 h63 hbytes hbase
    exact ⟨v', w', hr, h2, h3, h5⟩
theorem wp_appv {K : Act → World → Prop} (s x : Operand) (t : TypeId) (ho : o.op = .call { callee := .builtin .append, args := #[s, x], argTypes := #[t, t] })
    (base : Nat) (e : TypeId) (z : Value) (size bytes : Nat) (ht : P.underlying t = some (.slice e)) (hinfo : (P.info? e).map (fun i => (i.zero, i.size, i.bytes)) = some (some z, size, bytes)) (hzs : z.cells.size = size) (hsz : 0 < size)
    (v : Value) (n : Nat) (xs : List Value) (hs : a.eval s = v) (hown : w.ownsRow base e size v n xs) (p : Option Addr) (m c : Nat) (news : List Value) (hx : a.eval x = .slice p m c) (hr : Vw w size p m c news) (h1 : ∀ u ∈ news, u.oneCell' = true)
    (h63 : n + m ≤ maxLen) (hbytes : (n + m) * bytes ≤ 140737488355328) (hbase : base ≤ w.heap.size)
    (h : ∀ v' w', Hid (w'.ownsRow base e size v' (n + m) (xs ++ news)) → Hid (w.grownBy w' v.ownBlock) → Hid (v'.ownBlock = v.ownBlock ∨ v'.ownBlock = some w.heap.size) → K (a.put o.dst v') w') : o.wp P a w K Q := by
  obtain ⟨v', w', hrun, h2, h3, h4⟩ := run_appv (P := P) w base t o.type e z size bytes ht hinfo hzs hsz v n xs hown p m c news hr h1 h63 hbytes hbase
  unfold Oper.wp execOp
  simp only [ho, resolve, invoke, builtin, Sem.run_bind, Sem.run_pure, Result.andThen_ok, List.map_toArray, List.map_cons, List.map_nil, hs, hx, hrun]
  exact h v' w' h2 h3 h4
theorem wpList_appv (hgd : o.guard = none) (s x : Operand) (t : TypeId) (ho : o.op = .call { callee := .builtin .append, args := #[s, x], argTypes := #[t, t] })
    (base : Nat) (e : TypeId) (z : Value) (size bytes : Nat) (ht : P.underlying t = some (.slice e)) (hinfo : (P.info? e).map (fun i => (i.zero, i.size, i.bytes)) = some (some z, size, bytes)) (hzs : z.cells.size = size) (hsz : 0 < size)
    (v : Value) (n : Nat) (xs : List Value) (hs : a.eval s = v) (hown : w.ownsRow base e size v n xs) (p : Option Addr) (m c : Nat) (news : List Value) (hx : a.eval x = .slice p m c) (hr : Vw w size p m c news) (h1 : ∀ u ∈ news, u.oneCell' = true)
    (h63 : n + m ≤ maxLen) (hbytes : (n + m) * bytes ≤ 140737488355328) (hbase : base ≤ w.heap.size)
    (h : ∀ v' w', Hid (w'.ownsRow base e size v' (n + m) (xs ++ news)) → Hid (w.grownBy w' v.ownBlock) → Hid (v'.ownBlock = v.ownBlock ∨ v'.ownBlock = some w.heap.size) → wpList P ops Q rest (a.put o.dst v') w') : wpList P ops Q (o :: rest) a w :=
  wpList_plain hgd fun _ hK => wp_appv s x t ho base e z size bytes ht hinfo hzs hsz v n xs hs hown p m c news hx hr h1 h63 hbytes hbase fun v' w' h2 h3 h4 => hK _ _ (h v' w' h2 h3 h4)
theorem step_appv {K : Act → World → Prop} {E : Prop} (hgd : o.guard = none) (s x : Operand) (t : TypeId) (ho : o.op = .call { callee := .builtin .append, args := #[s, x], argTypes := #[t, t] })
    (base : Nat) (e : TypeId) (z : Value) (size bytes : Nat) (ht : P.underlying t = some (.slice e)) (hinfo : (P.info? e).map (fun i => (i.zero, i.size, i.bytes)) = some (some z, size, bytes)) (hzs : z.cells.size = size) (hsz : 0 < size)
    (v : Value) (n : Nat) (xs : List Value) (hs : a.eval s = v) (hown : w.ownsRow base e size v n xs) (p : Option Addr) (m c : Nat) (news : List Value) (hx : a.eval x = .slice p m c) (hr : Vw w size p m c news) (h1 : ∀ u ∈ news, u.oneCell' = true)
    (h63 : n + m ≤ maxLen) (hbytes : (n + m) * bytes ≤ 140737488355328) (hbase : base ≤ w.heap.size)
    (h : ∀ v' w', Hid (w'.ownsRow base e size v' (n + m) (xs ++ news)) → Hid (w.grownBy w' v.ownBlock) → Hid (v'.ownBlock = v.ownBlock ∨ v'.ownBlock = some w.heap.size) → K (a.put o.dst v') w') :
    if Region.wanted o (yielded ops a.tmps) = true then Oper.wp P o a w K Q else E := by
  have hw : Region.wanted o (yielded ops a.tmps) = true := by simp [Region.wanted, hgd]
  rw [if_pos hw]
  exact wp_appv s x t ho base e z size bytes ht hinfo hzs hsz v n xs hs hown p m c news hx hr h1 h63 hbytes hbase h
end
/-- 'append([]T{}, x...)': the empty row that the call has just laid -/
theorem own_fresh0 (w : World) (base : Nat) (e : TypeId) (size : Nat) (hb : base ≤ w.heap.size) : (w.alloc (.cells #[] e)).ownsRow base e size (.slice (some ⟨w.heap.size, 0, none⟩) 0 0) 0 [] :=
  ⟨by simp, .inr ⟨w.heap.size, 0, #[], rfl, hb, heap_alloc_new w _, by simp, by simp [maxLen], by simp, by simp⟩⟩
end Go.Proofs.Ytgeeaddbapjikaa
