/- plan: how far a task is, which is taken: plain. -/
import Derived.Test.YtahpbcacfdkdjaaNear3
namespace Go.Proofs.Ytahpbcacfdkdjaa
open Go.RowKit Go.Lib St Fl
set_option linter.unusedVariables false
set_option linter.unusedSimpArgs false
theorem distI_lo (a b c d : Option Int) : -1 ≤ distI a b c d := by
  unfold distI
  split
  · rename_i a b c d
    have h1 : 0 ≤ (a - c) * (a - c) := by
      rcases Int.le_total 0 (a - c) with h | h
      · exact Int.mul_nonneg h h
      · exact Int.mul_nonneg_of_nonpos_of_nonpos h h
    have h2 : 0 ≤ (b - d) * (b - d) := by
      rcases Int.le_total 0 (b - d) with h | h
      · exact Int.mul_nonneg h h
      · exact Int.mul_nonneg_of_nonpos_of_nonpos h h
    omega
  · omega
theorem distI_hi (a b c d : Nat) : distI (pl a) (pl b) (pl c) (pl d) ≤ 8000000 := by
  have HB : ∀ (x : Nat) (n : Int), pl x = some n → -1000 ≤ n ∧ n ≤ 1000 := fun x n h => ⟨(pl_is h).1, (pl_is h).2.1⟩
  unfold distI
  split
  · rename_i x y z u h1 h2 h3 h4
    have e1 := HB _ _ h1; have e2 := HB _ _ h2; have e3 := HB _ _ h3; have e4 := HB _ _ h4
    obtain ⟨p1, p2⟩ := sq_bd (x := x - z) (by omega) (by omega)
    obtain ⟨q1, q2⟩ := sq_bd (x := y - u) (by omega) (by omega)
    omega
  · omega
/-- a place's two words -/
abbrev Spot := Nat × Nat
def reH (hs : List Spot) (i : Nat) : Nat := (hs[i]?).elim 0 Prod.fst
def imH (hs : List Spot) (i : Nat) : Nat := (hs[i]?).elim 0 Prod.snd
theorem reH_at {hs : List Spot} {i : Nat} {h : Spot} (hh : hs[i]? = some h) : reH hs i = h.1 := by unfold reH; rw [hh]; rfl
theorem imH_at {hs : List Spot} {i : Nat} {h : Spot} (hh : hs[i]? = some h) : imH hs i = h.2 := by unfold imH; rw [hh]; rfl
noncomputable def dS (z h : Spot) : Int := distI (pl z.1) (pl z.2) (pl h.1) (pl h.2)
/-- the least of those that are none below nought -/
def bestF (ds : List Int) : Int := ds.foldl (fun b d => if 0 ≤ d ∧ (b < 0 ∨ d < b) then d else b) (-1)
theorem bestF_snoc (ds : List Int) (d : Int) : bestF (ds ++ [d]) = if 0 ≤ d ∧ (bestF ds < 0 ∨ d < bestF ds) then d else bestF ds := by unfold bestF; rw [List.foldl_append]; rfl
structure BestIs (ds : List Int) (b : Int) : Prop where
  lo : -1 ≤ b
  mem : 0 ≤ b → b ∈ ds
  le : ∀ d ∈ ds, 0 ≤ d → 0 ≤ b ∧ b ≤ d
theorem BestIs.unique {ds : List Int} {b c : Int} (h : BestIs ds b) (k : BestIs ds c) : b = c := by
  rcases Int.lt_or_le b 0 with hb | hb
  · rcases Int.lt_or_le c 0 with hc | hc
    · have := h.lo; have := k.lo; omega
    · have := h.le c (k.mem hc) hc; omega
  · have h1 := k.le b (h.mem hb) hb
    have h2 := h.le c (k.mem h1.1) h1.1
    omega
theorem bestF_is (ds : List Int) : BestIs ds (bestF ds) := by
  suffices H : ∀ (ds pre : List Int) (b : Int), BestIs pre b → BestIs (pre ++ ds) (ds.foldl (fun b d => if 0 ≤ d ∧ (b < 0 ∨ d < b) then d else b) b) by
    have := H ds [] (-1) ⟨by omega, fun h => by omega, fun d h => by cases h⟩
    rw [List.nil_append] at this
    exact this
  intro ds
  induction ds with
  | nil => intro pre b h; simpa using h
  | cons d ds ih =>
    intro pre b h
    rw [List.foldl_cons]
    have := ih (pre ++ [d]) (if 0 ≤ d ∧ (b < 0 ∨ d < b) then d else b) (by
      split
      · rename_i hc
        refine ⟨by omega, fun _ => by simp, fun x hx h0 => ?_⟩
        rcases List.mem_append.1 hx with hx | hx
        · have := h.le x hx h0; omega
        · obtain rfl := List.mem_singleton.1 hx; omega
      · rename_i hc
        refine ⟨h.lo, fun h0 => List.mem_append_left _ (h.mem h0), fun x hx h0 => ?_⟩
        rcases List.mem_append.1 hx with hx | hx
        · exact h.le x hx h0
        · obtain rfl := List.mem_singleton.1 hx
          have := h.lo; omega)
    rw [List.append_assoc] at this
    exact this
noncomputable def farS (z : Spot) (hs : List Spot) : Int := bestF (hs.map (dS z))
theorem farS_lo (z : Spot) (hs : List Spot) : -1 ≤ farS z hs := (bestF_is _).lo
/-- the first of the nearest tells how far the task is -/
theorem far_near {z : Spot} {hs : List Spot} {x : Int} (hx : (nearL z.1 z.2 (reH hs) (imH hs) hs.length)[0]? = some x) : ∃ (k : Nat) (h : Spot), x = (k : Int) ∧ hs[k]? = some h ∧ dS z h = farS z hs := by
  have hm := List.mem_of_getElem? hx
  obtain ⟨k, hk, rfl⟩ := (nearL_mem _ _ _ _ _ _).1 hm
  have hh := List.getElem?_eq_getElem hk
  refine ⟨k, hs[k], rfl, hh, ?_⟩
  have hl := distI_lo (pl z.1) (pl z.2) (pl hs[k].1) (pl hs[k].2)
  have hu := distI_hi z.1 z.2 hs[k].1 hs[k].2
  refine BestIs.unique ⟨hl, fun _ => List.mem_map.2 ⟨hs[k], List.getElem_mem hk, rfl⟩, fun d hd h0 => ?_⟩ (bestF_is _)
  obtain ⟨y, hy, rfl⟩ := List.mem_map.1 hd
  obtain ⟨j, hj⟩ := List.mem_iff_getElem?.1 hy
  have hjl := (List.getElem?_eq_some_iff.1 hj).1
  have hup := distI_hi z.1 z.2 y.1 y.2
  have hle : farZ z.1 z.2 (reH hs) (imH hs) (k : Int) ≤ farZ z.1 z.2 (reH hs) (imH hs) (j : Int) := by
    have hp := nearL_ahead z.1 z.2 (reH hs) (imH hs) hs.length
    have hjm := (nearL_mem z.1 z.2 (reH hs) (imH hs) hs.length (j : Int)).2 ⟨j, hjl, rfl⟩
    cases hnl : nearL z.1 z.2 (reH hs) (imH hs) hs.length with
    | nil => rw [hnl] at hx; cases hx
    | cons a l =>
      rw [hnl] at hx hp hjm
      obtain rfl : a = (k : Int) := Option.some.inj hx
      rcases List.mem_cons.1 hjm with e | e
      · rw [e]; exact Int.le_refl _
      · rcases (List.pairwise_cons.1 hp).1 _ e with h | h
        · omega
        · exact h.1
  unfold farZ at hle
  simp only [Int.toNat_natCast] at hle
  rw [reH_at hh, imH_at hh, reH_at hj, imH_at hj] at hle
  change 0 ≤ distI (pl z.1) (pl z.2) (pl y.1) (pl y.2) at h0
  show 0 ≤ distI (pl z.1) (pl z.2) (pl hs[k].1) (pl hs[k].2) ∧ distI (pl z.1) (pl z.2) (pl hs[k].1) (pl hs[k].2) ≤ distI (pl z.1) (pl z.2) (pl y.1) (pl y.2)
  generalize distI (pl z.1) (pl z.2) (pl hs[k].1) (pl hs[k].2) = a at *
  generalize distI (pl z.1) (pl z.2) (pl y.1) (pl y.2) = b at *
  simp only [IntKind.wrap_u64] at hle
  omega
/-! ### which one is taken -/
def chStep {τ : Type} (s : Option (τ × Int)) (x : τ × Int) : Option (τ × Int) := match s with
  | none => some x
  | some y => if 0 ≤ x.2 ∧ (y.2 < 0 ∨ x.2 < y.2) then some x else some y
def choose {τ : Type} (l : List (τ × Int)) : Option (τ × Int) := l.foldl chStep none
theorem choose_snoc {τ : Type} (l : List (τ × Int)) (x : τ × Int) : choose (l ++ [x]) = chStep (choose l) x := by unfold choose; rw [List.foldl_append]; rfl
theorem choose_map {τ σ : Type} (f : τ → σ) (l : List (τ × Int)) : choose (l.map fun x => (f x.1, x.2)) = (choose l).map fun x => (f x.1, x.2) := by
  suffices H : ∀ (l : List (τ × Int)) (s : Option (τ × Int)), (l.map fun x => (f x.1, x.2)).foldl chStep (s.map fun x => (f x.1, x.2)) = (l.foldl chStep s).map fun x => (f x.1, x.2) from H l none
  intro l
  induction l with
  | nil => intro s; rfl
  | cons a l ih =>
    intro s
    rw [List.map_cons, List.foldl_cons, List.foldl_cons, ← ih]
    congr 1
    cases s with
    | none => rfl
    | some y =>
      show chStep (some (f y.1, y.2)) (f a.1, a.2) = (chStep (some y) a).map _
      unfold chStep
      dsimp only
      split <;> rfl
/-- what is chosen: a first one, as near as any -/
structure ChIs {τ : Type} (l : List (τ × Int)) (y : τ × Int) : Prop where
  mem : y ∈ l
  le : ∀ x ∈ l, 0 ≤ x.2 → 0 ≤ y.2 ∧ y.2 ≤ x.2
theorem choose_is {τ : Type} (l : List (τ × Int)) : (choose l = none ∧ l = []) ∨ ∃ y, choose l = some y ∧ ChIs l y := by
  suffices H : ∀ (l pre : List (τ × Int)) (s : Option (τ × Int)), ((s = none ∧ pre = []) ∨ ∃ y, s = some y ∧ ChIs pre y) → ((l.foldl chStep s = none ∧ pre ++ l = []) ∨ ∃ y, l.foldl chStep s = some y ∧ ChIs (pre ++ l) y) by
    exact H l [] none (.inl ⟨rfl, rfl⟩)
  intro l
  induction l with
  | nil => intro pre s h; simpa using h
  | cons a l ih =>
    intro pre s h
    rw [List.foldl_cons]
    have := ih (pre ++ [a]) (chStep s a) (by
      rcases h with ⟨rfl, rfl⟩ | ⟨y, rfl, hy⟩
      · exact .inr ⟨a, rfl, by simp, fun x hx h0 => by
          have : x = a := by simpa using hx
          subst this
          omega⟩
      · right
        unfold chStep
        dsimp only
        split
        · rename_i hc
          refine ⟨a, rfl, by simp, fun x hx h0 => ?_⟩
          rcases List.mem_append.1 hx with hx | hx
          · have := hy.le x hx h0; omega
          · obtain rfl := List.mem_singleton.1 hx; omega
        · rename_i hc
          refine ⟨y, rfl, List.mem_append_left _ hy.mem, fun x hx h0 => ?_⟩
          rcases List.mem_append.1 hx with hx | hx
          · exact hy.le x hx h0
          · obtain rfl := List.mem_singleton.1 hx
            rcases Int.lt_or_le y.2 0 with h1 | h1
            · exact absurd ⟨h0, .inl h1⟩ hc
            · exact ⟨h1, Int.not_lt.1 fun h2 => hc ⟨h0, .inr h2⟩⟩)
    rw [List.append_assoc] at this
    exact this
/-- the places of a list beside what stands there -/
def enum (ds : List Int) : List (Nat × Int) := ds.mapIdx fun i d => (i, d)
theorem enum_snoc (ds : List Int) (d : Int) : enum (ds ++ [d]) = enum ds ++ [(ds.length, d)] := by
  unfold enum
  rw [List.mapIdx_append]
  simp
def pickP (ds : List Int) : Int := match choose (enum ds) with
  | some y => (y.1 : Int)
  | none => -1
theorem enum_map {α : Type} (l : List α) (f : α → Int) : (enum (l.map f)).length = l.length := by simp [enum]
/-- the number that the chosen place of a list of numbers bears -/
theorem pick_left {left : List Nat} {f : Nat → Int} {k : Int} (hk : pickP (left.map f) = k) : (k = -1 ∧ left = [] ∧ choose (left.map fun i => (i, f i)) = none) ∨ ∃ (j i : Nat), k = (j : Int) ∧ left[j]? = some i ∧ choose (left.map fun i => (i, f i)) = some (i, f i) := by
  unfold pickP at hk
  have hm : left.map (fun i => (i, f i)) = (enum (left.map f)).map fun x => ((left[x.1]?).getD 0, x.2) := by
    apply List.ext_getElem?
    intro q
    unfold enum
    rw [List.getElem?_map, List.getElem?_map, List.getElem?_mapIdx, List.getElem?_map]
    cases h : left[q]? with
    | none => rfl
    | some i => simp [h]
  rcases choose_is (enum (left.map f)) with ⟨h1, h2⟩ | ⟨y, h1, h2⟩
  · rw [h1] at hk
    left
    have h3 : left = [] := by
      have := congrArg List.length h2
      rw [enum_map] at this
      exact List.eq_nil_of_length_eq_zero this
    exact ⟨hk.symm, h3, by rw [h3]; rfl⟩
  · rw [h1] at hk
    right
    obtain ⟨q, hq⟩ := List.mem_iff_getElem?.1 h2.mem
    unfold enum at hq
    rw [List.getElem?_mapIdx, List.getElem?_map] at hq
    obtain ⟨d, hd, rfl⟩ := Option.map_eq_some_iff.1 hq
    obtain ⟨i, hi, rfl⟩ := Option.map_eq_some_iff.1 hd
    refine ⟨q, i, hk.symm, hi, ?_⟩
    rw [hm, choose_map (fun n => (left[n]?).getD 0), h1]
    simp [hi]
end Go.Proofs.Ytahpbcacfdkdjaa
