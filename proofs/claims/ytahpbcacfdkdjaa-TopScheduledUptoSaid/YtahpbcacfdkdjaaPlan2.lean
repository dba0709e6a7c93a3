/- plan: points, the tasks that a law lays, speaks. (Under way.) -/
import Derived.Test.YtahpbcacfdkdjaaPlan
import Derived.Test.YtahpbcacfdkdjaaApp
import Derived.Test.YtahpbcacfdkdjaaBoard4
import Derived.Deep.RegionHeld3
namespace Go.Proofs.Ytahpbcacfdkdjaa
open Go.RowKit Go.Lib St Fl
set_option linter.unusedVariables false
set_option linter.unusedSimpArgs false
def spotC (h : Spot) : Value := .complex .f64 h.1 h.2
theorem c128_info : (Try.prog.info? 32).map (fun i => (i.zero, i.size, i.bytes)) = some (some (.complex .f64 0 0), 1, 16) := by kernel_rfl
theorem ptask_info : (Try.prog.info? 31).map (fun i => (i.zero, i.size, i.bytes)) = some (some (.agg #[.int .i64 0, .slice none 0 0]), 2, 32) := by kernel_rfl
theorem hold_of_own {w : World} {base : Nat} {v : Value} {hs : List Spot} (h : w.ownsRow base 32 1 v hs.length (hs.map spotC)) (hl : hs.length < 35184372088832) : ∃ p c, v = .slice p hs.length c ∧ HoldAt w p hs.length c hs := by
  obtain ⟨p, c, rfl⟩ := own_slice h
  refine ⟨p, c, rfl, rfl, hl, fun h0 => ?_⟩
  obtain ⟨g, cap, e, _, hlt, hC⟩ := own_some h h0
  cases e
  exact ⟨g, rfl, hlt, fun i x hx => (hC.get (j := i) (by rw [List.getElem?_map, hx]; rfl)).1⟩
/-- rows of other elements lie in other blocks -/
theorem own_types {w : World} {b1 b2 s1 s2 n1 n2 : Nat} {e1 e2 : TypeId} {v1 v2 : Value} {x1 x2 : List Value} (h1 : w.ownsRow b1 e1 s1 v1 n1 x1) (h2 : w.ownsRow b2 e2 s2 v2 n2 x2) (hne : e1 ≠ e2) : ∀ q, v1.ownBlock = some q → v2.ownBlock ≠ some q := by
  intro q k1 k2
  rcases h1.2 with ⟨rfl, _⟩ | ⟨g1, c1, cur1, rfl, _, hh1, _⟩
  · cases k1
  · rcases h2.2 with ⟨rfl, _⟩ | ⟨g2, c2, cur2, rfl, _, hh2, _⟩
    · cases k2
    · cases k1
      cases k2
      rw [hh1] at hh2
      injection hh2 with hh2
      injection hh2 with _ hh2
      exact hne hh2
def taskRow (u : Value) (t : Int × List Spot) : List Value := [.int .i64 t.1, u]
/-- the law's own tasks: their holders lie in rows us -/
structure InAt (w : World) (base : Nat) (v : Value) (us : List Value) (ts : List (Int × List Spot)) : Prop where
  ul : us.length = ts.length
  row : w.ownsRow base 31 2 v ts.length (List.zipWith taskRow us ts).flatten
  hold : ∀ (i : Nat) (u : Value) (t : Int × List Spot), us[i]? = some u → ts[i]? = some t → w.ownsRow base 32 1 u t.2.length (t.2.map spotC) ∧ t.2.length < 35184372088832
theorem taskRow_len {us : List Value} {ts : List (Int × List Spot)} : ∀ r ∈ List.zipWith taskRow us ts, r.length = 2 := by
  intro r hr
  obtain ⟨k, hk⟩ := List.mem_iff_getElem?.1 hr
  rw [List.getElem?_zipWith] at hk
  cases h1 : us[k]? <;> cases h2 : ts[k]? <;> rw [h1, h2] at hk <;> simp at hk
  rw [← hk]; rfl
theorem InAt.nil (w : World) (base : Nat) : InAt w base (.slice none 0 0) [] [] := ⟨rfl, World.ownsRow_nil _ _ _ _, fun i u t h => by simp at h⟩
theorem InAt.below {w w' : World} {base N : Nat} {v : Value} {us : List Value} {ts : List (Int × List Spot)} (h : InAt w base v us ts) (hb : Below N w w') (hN : w.heap.size ≤ N) : InAt w' base v us ts :=
  ⟨h.ul, own_below h.row hb hN, fun i u t hu ht => ⟨own_below (h.hold i u t hu ht).1 hb hN, (h.hold i u t hu ht).2⟩⟩
theorem InAt.tasks {w : World} {base : Nat} {v : Value} {us : List Value} {ts : List (Int × List Spot)} (h : InAt w base v us ts) (hl : ts.length < 8796093022208) : ∃ p c, v = .slice p ts.length c ∧ TasksAt w p ts.length c ts := by
  obtain ⟨p, c, rfl⟩ := own_slice h.row
  refine ⟨p, c, rfl, rfl, hl, fun i t ht => ?_⟩
  have hi := (List.getElem?_eq_some_iff.1 ht).1
  obtain ⟨u, hu⟩ : ∃ u, us[i]? = some u := ⟨us[i]'(by rw [h.ul]; exact hi), List.getElem?_eq_getElem _⟩
  obtain ⟨g, cap, e, _, hlt, hC⟩ := own_some h.row (by omega)
  cases e
  have hz : (List.zipWith taskRow us ts)[i]? = some (taskRow u t) := by rw [List.getElem?_zipWith, hu, ht]
  have key : ∀ j x, (taskRow u t)[j]? = some x → w.cell? ⟨g, i * 2 + j, none⟩ = some x := fun j x hx => by
    have hj : j < 2 := (List.getElem?_eq_some_iff.1 hx).1
    exact (hC.get (j := i * 2 + j) (by rw [flatten_get (sz := 2) taskRow_len hz hj]; exact hx)).1
  obtain ⟨ho, hol⟩ := h.hold i u t hu ht
  obtain ⟨q, k, rfl, hh⟩ := hold_of_own ho hol
  exact ⟨g, q, t.2.length, k, rfl, hlt, key 0 _ rfl, key 1 _ rfl, hh⟩
theorem InAt.push {w w' : World} {base : Nat} {v v' u : Value} {us : List Value} {ts : List (Int × List Spot)} {t : Int × List Spot} (h : InAt w base v us ts) (hu : w.ownsRow base 32 1 u t.2.length (t.2.map spotC)) (hul : t.2.length < 35184372088832)
    (hO : w'.ownsRow base 31 2 v' (ts.length + 1) ((List.zipWith taskRow us ts).flatten ++ taskRow u t)) (hG : w.grownBy w' v.ownBlock) : InAt w' base v' (us ++ [u]) (ts ++ [t]) := by
  have hty : 31 ≠ 32 := by decide
  refine ⟨by simp [h.ul], ?_, fun i x y hx hy => ?_⟩
  · rw [List.zipWith_append h.ul, List.flatten_append, List.length_append]
    simpa using hO
  · by_cases hi : i < ts.length
    · rw [List.getElem?_append_left (by rw [h.ul]; exact hi)] at hx
      rw [List.getElem?_append_left hi] at hy
      obtain ⟨h1, h2⟩ := h.hold i x y hx hy
      exact ⟨own_grown h1 hG (own_types h.row h1 hty), h2⟩
    · have hil := (List.getElem?_eq_some_iff.1 hy).1
      rw [List.length_append] at hil
      obtain rfl : i = ts.length := by simp at hil; omega
      rw [← h.ul, List.getElem?_append_right (Nat.le_refl _), Nat.sub_self] at hx
      rw [List.getElem?_append_right (Nat.le_refl _), Nat.sub_self] at hy
      obtain rfl := Option.some.inj hx
      obtain rfl := Option.some.inj hy
      exact ⟨own_grown hu hG (own_types h.row hu hty), hul⟩
end Go.Proofs.Ytahpbcacfdkdjaa
