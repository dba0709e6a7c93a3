/- where.Spread and the document's Spread: plain. -/
import Derived.Test.YtgblbhbmeflckaaKit
namespace Go.Proofs.Ytgblbhbmeflckaa
open Go.RowKit
set_option linter.unusedVariables false
set_option linter.unusedSimpArgs false
/-- the least of some numbers; of none 0 -/
def leastP : List Int → Int
  | [] => 0
  | d :: r => r.foldl (fun o x => if x < o then x else o) d
theorem leastP_snoc (l : List Int) (d : Int) : leastP (l ++ [d]) = if l = [] ∨ d < leastP l then d else leastP l := by
  cases l with
  | nil => rfl
  | cons a r =>
    show (r ++ [d]).foldl _ a = _
    rw [List.foldl_append]
    simp [leastP]
/-- the document's: from a bound that is greater than all -/
def leastR (l : List Int) : Int := l.foldl (fun o x => if x < o then x else o) 1099511627776
theorem leastR_snoc (l : List Int) (d : Int) : leastR (l ++ [d]) = if d < leastR l then d else leastR l := by unfold leastR; rw [List.foldl_append]; rfl
theorem leastR_eq {l : List Int} (h : l ≠ []) (hb : ∀ d ∈ l, d < 1099511627776) : leastR l = leastP l := by
  cases l with
  | nil => exact absurd rfl h
  | cons a r =>
    unfold leastR leastP
    rw [List.foldl_cons, if_pos (hb a (by simp))]
theorem foldl_lo {P : Int → Prop} (r : List Int) (a : Int) (ha : P a) (h : ∀ d ∈ r, P d) : P (r.foldl (fun o x => if x < o then x else o) a) := by
  induction r generalizing a with
  | nil => exact ha
  | cons x r ih =>
    rw [List.foldl_cons]
    refine ih _ ?_ (fun d hd => h d (by simp [hd]))
    split
    · exact h x (by simp)
    · exact ha
theorem leastP_all {P : Int → Prop} {l : List Int} (h0 : P 0) (h : ∀ d ∈ l, P d) : P (leastP l) := by
  cases l with
  | nil => exact h0
  | cons a r => exact foldl_lo r a (h a (by simp)) (fun d hd => h d (by simp [hd]))
theorem leastR_all {P : Int → Prop} {l : List Int} (h0 : P 1099511627776) (h : ∀ d ∈ l, P d) : P (leastR l) := foldl_lo l _ h0 h
/-- the first of the greatest: its place, and it -/
def bestK (fs : List Int) : Int × Int := fs.zipIdx.foldl (fun b p => if b.2 < p.1 then ((p.2 : Int), p.1) else b) (0, -1)
theorem bestK_snoc (fs : List Int) (d : Int) : bestK (fs ++ [d]) = if (bestK fs).2 < d then ((fs.length : Int), d) else bestK fs := by
  unfold bestK
  rw [List.zipIdx_append, List.foldl_append]
  simp
/-- the document's: the number itself -/
def bestV (vs : List (Nat × Int)) : Int × Int := vs.foldl (fun b p => if b.2 < p.2 then ((p.1 : Int), p.2) else b) (-1, -1)
theorem bestV_snoc (vs : List (Nat × Int)) (p : Nat × Int) : bestV (vs ++ [p]) = if (bestV vs).2 < p.2 then ((p.1 : Int), p.2) else bestV vs := by unfold bestV; rw [List.foldl_append]; rfl
theorem best_same (f : Nat → Int) (near : List Nat) (hf : ∀ i ∈ near, 0 ≤ f i) : ∀ m, m ≤ near.length → (m = 0 ∨ ∃ k i : Nat, k < m ∧ near[k]? = some i ∧ bestK ((near.take m).map f) = ((k : Int), f i) ∧ bestV ((near.take m).map fun i => (i, f i)) = ((i : Int), f i)) := by
  intro m
  induction m with
  | zero => exact fun _ => .inl rfl
  | succ m ih =>
    intro hm
    right
    obtain ⟨x, hx⟩ : ∃ x, near[m]? = some x := ⟨near[m]'(by omega), List.getElem?_eq_getElem _⟩
    have hx0 := hf x (List.mem_of_getElem? hx)
    rw [List.take_add_one, hx, Option.toList_some, List.map_append, List.map_append]
    rw [show List.map f [x] = [f x] from rfl, show List.map (fun i => (i, f i)) [x] = [(x, f x)] from rfl, bestK_snoc, bestV_snoc]
    have hl : ((near.take m).map f).length = m := by rw [List.length_map, List.length_take]; omega
    rw [hl]
    rcases ih (by omega) with rfl | ⟨k, i, hk, hi, h1, h2⟩
    · have e1 : (bestK ((near.take 0).map f)).2 < f x := by show (-1 : Int) < f x; omega
      have e2 : (bestV ((near.take 0).map fun i => (i, f i))).2 < f x := by show (-1 : Int) < f x; omega
      rw [if_pos e1]
      dsimp only
      rw [if_pos e2]
      exact ⟨0, x, by omega, hx, rfl, rfl⟩
    · rw [h1, h2]
      dsimp only
      by_cases hc : f i < f x
      · rw [if_pos hc, if_pos hc]
        exact ⟨m, x, by omega, hx, rfl, rfl⟩
      · rw [if_neg hc, if_neg hc]
        exact ⟨k, i, by omega, hi, rfl, rfl⟩
theorem best_is (f : Nat → Int) (near : List Nat) (hf : ∀ i ∈ near, 0 ≤ f i) (hne : near ≠ []) : ∃ k i : Nat, near[k]? = some i ∧ bestK (near.map f) = ((k : Int), f i) ∧ bestV (near.map fun i => (i, f i)) = ((i : Int), f i) := by
  rcases best_same f near hf near.length (Nat.le_refl _) with h | ⟨k, i, _, h1, h2, h3⟩
  · exact absurd (List.eq_nil_of_length_eq_zero h) hne
  · rw [List.take_length] at h2 h3
    exact ⟨k, i, h1, h2, h3⟩
theorem bestV_const (near : List Nat) (c : Int) (hc : 0 ≤ c) (hne : near ≠ []) : ∃ i, near.head? = some i ∧ bestV (near.map fun i => (i, c)) = ((i : Int), c) := by
  cases near with
  | nil => exact absurd rfl hne
  | cons a r =>
    refine ⟨a, rfl, ?_⟩
    unfold bestV
    rw [List.map_cons, List.foldl_cons]
    dsimp only
    rw [if_pos (by omega)]
    clear hne
    induction r with
    | nil => rfl
    | cons b r ih =>
      rw [List.map_cons, List.foldl_cons]
      dsimp only
      rw [if_neg (by omega)]
      exact ih
theorem bestK_const (near : List Nat) (c : Int) (hc : 0 ≤ c) (hne : near ≠ []) : bestK (near.map fun _ => c) = (0, c) := by
  obtain ⟨k, i, h1, h2, h3⟩ := best_is (fun _ => c) near (fun _ _ => hc) hne
  cases near with
  | nil => exact absurd rfl hne
  | cons a r =>
    have : ∀ (l : List Int) (q : Nat), (∀ x ∈ l, x = c) → (l.zipIdx q).foldl (fun b p => if b.2 < p.1 then ((p.2 : Int), p.1) else b) ((0 : Int), c) = (0, c) := by
      intro l
      induction l with
      | nil => intro _ _; rfl
      | cons x l ih =>
        intro q hq
        rw [List.zipIdx_cons, List.foldl_cons]
        dsimp only
        rw [if_neg (by rw [hq x (by simp)]; omega)]
        exact ih _ fun y hy => hq y (by simp [hy])
    unfold bestK
    rw [List.map_cons, List.zipIdx_cons, List.foldl_cons]
    dsimp only
    rw [if_pos (by omega)]
    exact this _ _ fun x hx => by obtain ⟨_, _, rfl⟩ := List.mem_map.1 hx; rfl
/-- how far i is from the nearest of out -/
def lst (D : Nat → Nat → Int) (out : List Nat) (i : Nat) : Int := leastP (out.map (D i))
def lstR (D : Nat → Nat → Int) (out : List Nat) (i : Nat) : Int := leastR (out.map (D i))
/-- what Spread still takes, out of those that are left -/
def spr (D : Nat → Nat → Int) (n : Int) : Nat → List Nat → List Nat → List Nat
  | 0, out, _ => out
  | fuel + 1, out, near => if (out.length : Int) < n ∧ near ≠ [] then spr D n fuel (out ++ [near[(bestK (near.map (lst D out))).1.toNat]!]) (near.eraseIdx (bestK (near.map (lst D out))).1.toNat) else out
theorem spr_stop {D : Nat → Nat → Int} {n : Int} {fuel : Nat} {out near : List Nat} (h : ¬ ((out.length : Int) < n ∧ near ≠ [])) : spr D n fuel out near = out := by
  cases fuel with
  | zero => rfl
  | succ f => unfold spr; rw [if_neg h]
theorem spr_step {D : Nat → Nat → Int} {n : Int} {out near : List Nat} (h1 : (out.length : Int) < n) (h2 : near ≠ []) {k i : Nat} {c : Int} (hi : near[k]? = some i) (hb : bestK (near.map (lst D out)) = ((k : Int), c)) : spr D n near.length out near = spr D n (near.eraseIdx k).length (out ++ [i]) (near.eraseIdx k) := by
  have hk := (List.getElem?_eq_some_iff.1 hi).1
  have hl : near.length = (near.eraseIdx k).length + 1 := by rw [List.length_eraseIdx_of_lt hk]; omega
  conv => lhs; rw [hl]; unfold spr
  rw [if_pos ⟨h1, h2⟩, hb]
  dsimp only
  rw [Int.toNat_natCast, getElem!_pos near k hk, (List.getElem?_eq_some_iff.1 hi).2]
/-- the document's choice is the program's -/
theorem pick_same {D : Nat → Nat → Int} {out near : List Nat} (h0 : ∀ i ∈ near, ∀ j ∈ out, 0 ≤ D i j ∧ D i j < 1099511627776) (hne : near ≠ []) : ∃ (k i : Nat) (c d : Int), near[k]? = some i ∧ bestK (near.map (lst D out)) = ((k : Int), c) ∧ bestV (near.map fun i => (i, lstR D out i)) = ((i : Int), d) ∧ 0 ≤ d := by
  by_cases ho : out = []
  · subst ho
    have e1 : near.map (lst D []) = near.map fun _ => (0 : Int) := rfl
    have e2 : (near.map fun i => (i, lstR D [] i)) = near.map fun i => (i, (1099511627776 : Int)) := rfl
    obtain ⟨i, hi, hv⟩ := bestV_const near 1099511627776 (by omega) hne
    exact ⟨0, i, 0, 1099511627776, by rw [← List.head?_eq_getElem?]; exact hi, by rw [e1]; exact bestK_const near 0 (by omega) hne, by rw [e2]; exact hv, by omega⟩
  · have hpos : ∀ i ∈ near, 0 ≤ lst D out i := fun i hi => leastP_all (P := fun d => 0 ≤ d) (Int.le_refl _) fun d hd => by
      obtain ⟨j, hj, rfl⟩ := List.mem_map.1 hd
      exact (h0 i hi j hj).1
    obtain ⟨k, i, h1, h2, h3⟩ := best_is (lst D out) near hpos hne
    have e : (near.map fun i => (i, lstR D out i)) = near.map fun i => (i, lst D out i) := List.map_congr_left fun i hi => by
      rw [show lstR D out i = lst D out i from leastR_eq (by simpa using ho) fun d hd => by
        obtain ⟨j, hj, rfl⟩ := List.mem_map.1 hd
        exact (h0 i hi j hj).2]
    exact ⟨k, i, _, _, h1, h2, by rw [e]; exact h3, hpos i (List.mem_of_getElem? h1)⟩
end Go.Proofs.Ytgblbhbmeflckaa
