/- append of a slice that is only read onto an empty slice without room: '[]T{}' or nil. -/
import Derived.Test.YtgeeaddbapjikaaView
namespace Go.Proofs.Ytgeeaddbapjikaa
open Go.RowKit
set_option linter.unusedVariables false
set_option linter.unusedSimpArgs false
/-- v' holds m elements, the cells news; a row of the call's own where there are any -/
structure App0 (w w' : World) (e : TypeId) (size : Nat) (v' : Value) (m : Nat) (news : List Value) : Prop where
  vw : ∃ p' c', v' = .slice p' m c' ∧ Vw w' size p' m c' news ∧ (0 < m → ∀ a, p' = some a → w.heap.size ≤ a.block)
  own : 0 < m → w'.ownsRow w.heap.size e size v' m news
  below : Below w.heap.size w w'
section
variable {P : Program} {ops : Array Oper} {rest : List Oper} {o : Oper} {a : Act} {w : World} {Q : Exit → Act → World → Prop}
theorem run_app0 (w : World) (t ty e : TypeId) (z : Value) (size bytes : Nat) (ht : P.underlying t = some (.slice e)) (hinfo : (P.info? e).map (fun i => (i.zero, i.size, i.bytes)) = some (some z, size, bytes)) (hzs : z.cells.size = size) (hsz : 0 < size)
    (q : Option Addr) (p : Option Addr) (m c : Nat) (news : List Value) (hr : Vw w size p m c news) (h63 : m ≤ maxLen) (hbytes : m * bytes ≤ 281474976710656) :
    ∃ v' w', (Builtin.append_ #[t, t] ty #[.slice q 0 0, .slice p m c]).run P w = .ok v' w' ∧ App0 w w' e size v' m news := by
  obtain ⟨i, hi, hz, hsize, hby⟩ := info_parts hinfo
  by_cases hm : m = 0
  · subst hm
    obtain rfl : news = [] := List.eq_nil_of_length_eq_zero (by simpa using hr.2.1)
    refine ⟨.slice q 0 0, w, ?_, ⟨q, 0, rfl, Vw.nil _ _ _ _, fun h => absurd h (by omega)⟩, fun h => absurd h (by omega), Below.refl _ _⟩
    cases q <;> cases p <;> simp [Builtin.append_, run_underlying ht, sizeOf, typeInfo, hi, Builtin.lenOf, Builtin.firstCells, storeCells, loadCells, loadCellsFrom]
  · obtain ⟨b, off, rfl, hlt, hc⟩ := hr.2.2 (by omega)
    have h63' : m ≤ 9223372036854775807 := by simp only [maxLen] at h63; omega
    have hcell : ∀ j u, news[j]? = some u → w.cell? ((⟨b, off, none⟩ : Addr).add j) = some u := fun j u hu => by
      have e1 : (⟨b, off, none⟩ : Addr).add j = ⟨b, off + j, none⟩ := by unfold Addr.add; split <;> simp_all
      rw [e1]; exact hc j u hu
    have key : (w.drew.alloc (.cells (news.toArray ++ Builtin.zeroCells z.cells (grownCap w m 0 e - m)) e)).ownsRow w.heap.size e size (.slice (some ⟨w.heap.size, 0, none⟩) m (grownCap w m 0 e)) m news := by
      have hge := grownCap_ge w m 0 e
      refine ⟨hr.2.1, .inr ⟨w.heap.size, _, _, rfl, Nat.le_refl _, heap_alloc_new w.drew _, hge, grownCap_le_maxLen w m 0 e h63, ?_, ?_⟩⟩
      · simp only [Array.size_append, List.size_toArray, size_zeroCells, hzs, hr.2.1, ← Nat.add_mul]
        congr 1
        omega
      · simp only [Array.toList_append]
        rw [← hr.2.1]
        exact List.take_left
    have hbel : Below w.heap.size w (w.drew.alloc (.cells (news.toArray ++ Builtin.zeroCells z.cells (grownCap w m 0 e - m)) e)) := ⟨rfl, rfl, rfl, by simp, fun k hk => Below.heap_alloc w.drew _ k hk⟩
    have hrun : (Builtin.append_ #[t, t] ty #[.slice q 0 0, .slice (some ⟨b, off, none⟩) m c]).run P w = .ok (.slice (some ⟨w.heap.size, 0, none⟩) m (grownCap w m 0 e)) (w.drew.alloc (.cells (news.toArray ++ Builtin.zeroCells z.cells (grownCap w m 0 e - m)) e)) := by
      cases q with
      | none => exact run_append_nil (P := P) w t ty e i z ht hi hz ⟨b, off, none⟩ m c news (by rw [hsize]; exact hr.2.1) hcell (by omega) (by omega) (by rw [hby]; exact hbytes)
      | some ad =>
        have h := run_append_grow (P := P) w t ty e i z ht hi hz ad 0 0 [] (by simp) (fun j v hv => by simp at hv) ⟨b, off, none⟩ m c news (by rw [hsize]; exact hr.2.1) hcell (by omega) (by omega) (by rw [Nat.zero_add, nextslicecap_zero (by omega), hby]; exact hbytes)
        simpa using h
    obtain ⟨A, cc, hv⟩ := own_slice key
    exact ⟨_, _, hrun, ⟨_, _, rfl, Vw.of_own_at key, fun _ a e => by cases e; exact Nat.le_refl _⟩, fun _ => key, hbel⟩
theorem wp_app0 {K : Act → World → Prop} (s x : Operand) (t : TypeId) (ho : o.op = .call { callee := .builtin .append, args := #[s, x], argTypes := #[t, t] })
    (e : TypeId) (z : Value) (size bytes : Nat) (ht : P.underlying t = some (.slice e)) (hinfo : (P.info? e).map (fun i => (i.zero, i.size, i.bytes)) = some (some z, size, bytes)) (hzs : z.cells.size = size) (hsz : 0 < size)
    (q : Option Addr) (hs : a.eval s = .slice q 0 0) (p : Option Addr) (m c : Nat) (news : List Value) (hx : a.eval x = .slice p m c) (hr : Vw w size p m c news)
    (h63 : m ≤ maxLen) (hbytes : m * bytes ≤ 281474976710656)
    (h : ∀ v' w', Hid (App0 w w' e size v' m news) → K (a.put o.dst v') w') : o.wp P a w K Q := by
  obtain ⟨v', w', hrun, h2⟩ := run_app0 (P := P) w t o.type e z size bytes ht hinfo hzs hsz q p m c news hr h63 hbytes
  unfold Oper.wp execOp
  simp only [ho, resolve, invoke, builtin, Sem.run_bind, Sem.run_pure, Result.andThen_ok, List.map_toArray, List.map_cons, List.map_nil, hs, hx, hrun]
  exact h v' w' h2
theorem wpList_app0 (hgd : o.guard = none) (s x : Operand) (t : TypeId) (ho : o.op = .call { callee := .builtin .append, args := #[s, x], argTypes := #[t, t] })
    (e : TypeId) (z : Value) (size bytes : Nat) (ht : P.underlying t = some (.slice e)) (hinfo : (P.info? e).map (fun i => (i.zero, i.size, i.bytes)) = some (some z, size, bytes)) (hzs : z.cells.size = size) (hsz : 0 < size)
    (q : Option Addr) (hs : a.eval s = .slice q 0 0) (p : Option Addr) (m c : Nat) (news : List Value) (hx : a.eval x = .slice p m c) (hr : Vw w size p m c news)
    (h63 : m ≤ maxLen) (hbytes : m * bytes ≤ 281474976710656)
    (h : ∀ v' w', Hid (App0 w w' e size v' m news) → wpList P ops Q rest (a.put o.dst v') w') : wpList P ops Q (o :: rest) a w :=
  wpList_plain hgd fun _ hK => wp_app0 s x t ho e z size bytes ht hinfo hzs hsz q hs p m c news hx hr h63 hbytes fun v' w' h2 => hK _ _ (h v' w' h2)
theorem step_app0 {K : Act → World → Prop} {E : Prop} (hgd : o.guard = none) (s x : Operand) (t : TypeId) (ho : o.op = .call { callee := .builtin .append, args := #[s, x], argTypes := #[t, t] })
    (e : TypeId) (z : Value) (size bytes : Nat) (ht : P.underlying t = some (.slice e)) (hinfo : (P.info? e).map (fun i => (i.zero, i.size, i.bytes)) = some (some z, size, bytes)) (hzs : z.cells.size = size) (hsz : 0 < size)
    (q : Option Addr) (hs : a.eval s = .slice q 0 0) (p : Option Addr) (m c : Nat) (news : List Value) (hx : a.eval x = .slice p m c) (hr : Vw w size p m c news)
    (h63 : m ≤ maxLen) (hbytes : m * bytes ≤ 281474976710656)
    (h : ∀ v' w', Hid (App0 w w' e size v' m news) → K (a.put o.dst v') w') :
    if Region.wanted o (yielded ops a.tmps) = true then Oper.wp P o a w K Q else E := by
  have hw : Region.wanted o (yielded ops a.tmps) = true := by simp [Region.wanted, hgd]
  rw [if_pos hw]
  exact wp_app0 s x t ho e z size bytes ht hinfo hzs hsz q hs p m c news hx hr h63 hbytes h
end
end Go.Proofs.Ytgeeaddbapjikaa
