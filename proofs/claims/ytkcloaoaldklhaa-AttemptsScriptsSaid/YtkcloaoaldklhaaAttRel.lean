/- attempts: the board and the reference's say the same: plain. -/
import Derived.Test.YtkcloaoaldklhaaAttRef4
namespace Go.Proofs.Ytkcloaoaldklhaa
open Go.RowKit
set_option linter.unusedVariables false
set_option linter.unusedSimpArgs false
/-- a task's tries, as the reference lists them -/
def asRef (i : Nat) (k : At.Task) : List Ar.Try := k.tries.mapIdx fun j a => ⟨(i : Int), (j : Int) + 1, a.node, a.begun, a.state, decide (k.winner = (j : Int) + 1)⟩
def ofT (i : Nat) (x : Ar.Try) : Bool := decide (x.task = (i : Int))
structure ARel (S : At.Bd) (R : Ar.Bd) : Prop where
  maps : R.maps = S.maps
  len : R.maps + R.reds = S.tasks.length
  limit : R.limit = S.limit
  pat : R.patience = S.patience
  ent : ∀ (i : Nat) (k : At.Task), S.tasks[i]? = some k → R.l.filter (ofT i) = asRef i k
  dom : ∀ x ∈ R.l, 0 ≤ x.task ∧ x.task < (S.tasks.length : Int)
theorem asRef_get (i : Nat) (k : At.Task) (j : Nat) : (asRef i k)[j]? = (k.tries[j]?).map fun a => ⟨(i : Int), (j : Int) + 1, a.node, a.begun, a.state, decide (k.winner = (j : Int) + 1)⟩ := by
  unfold asRef
  rw [List.getElem?_mapIdx]
def back (x : Ar.Try) : At.Try := ⟨x.node, x.begun, x.state⟩
theorem back_asRef (i : Nat) (k : At.Task) : (asRef i k).map back = k.tries := by
  apply List.ext_getElem?
  intro j
  rw [List.getElem?_map, asRef_get]
  cases k.tries[j]? <;> rfl
theorem asRef_task {i : Nat} {k : At.Task} {x : Ar.Try} (hx : x ∈ asRef i k) : x.task = (i : Int) := by
  obtain ⟨j, hj⟩ := List.mem_iff_getElem?.1 hx
  rw [asRef_get] at hj
  obtain ⟨a, _, rfl⟩ := Option.map_eq_some_iff.1 hj
  rfl
theorem cut_at {l : List Ar.Try} {p : Nat} {x : Ar.Try} (hx : l[p]? = some x) : l = l.take p ++ x :: l.drop (p + 1) := by
  obtain ⟨hp, e⟩ := List.getElem?_eq_some_iff.1 hx
  rw [← e, ← List.drop_eq_getElem_cons hp, List.take_append_drop]
theorem filter_set {f : Ar.Try → Bool} {l : List Ar.Try} {p : Nat} {x x' : Ar.Try} (hx : l[p]? = some x) (h1 : f x = true) (h2 : f x' = true) : ∃ q, (l.filter f)[q]? = some x ∧ (l.set p x').filter f = (l.filter f).set q x' := by
  have hp := (List.getElem?_eq_some_iff.1 hx).1
  have hc := cut_at hx
  have e1 : l.filter f = (l.take p).filter f ++ x :: (l.drop (p + 1)).filter f := by
    conv => lhs; rw [hc]
    rw [List.filter_append, List.filter_cons, if_pos h1]
  refine ⟨((l.take p).filter f).length, ?_, ?_⟩
  · rw [e1, List.getElem?_append_right (Nat.le_refl _), Nat.sub_self]
    rfl
  · rw [List.set_eq_take_append_cons_drop, if_pos hp, List.filter_append, List.filter_cons, if_pos h2, e1, List.set_append_right _ _ (Nat.le_refl _), Nat.sub_self]
    rfl
theorem filter_set_out {f : Ar.Try → Bool} {l : List Ar.Try} {p : Nat} {x x' : Ar.Try} (hx : l[p]? = some x) (h1 : f x = false) (h2 : f x' = false) : (l.set p x').filter f = l.filter f := by
  have hp := (List.getElem?_eq_some_iff.1 hx).1
  have hc := cut_at hx
  have e1 : l.filter f = (l.take p).filter f ++ (l.drop (p + 1)).filter f := by
    conv => lhs; rw [hc]
    rw [List.filter_append, List.filter_cons, if_neg (by rw [h1]; exact Bool.false_ne_true)]
  rw [List.set_eq_take_append_cons_drop, if_pos hp, List.filter_append, List.filter_cons, if_neg (by rw [h2]; exact Bool.false_ne_true), e1]
theorem find_of (f : Ar.Try → Bool) (l : List Ar.Try) : (l.findIdx? f = none ∧ ∀ x ∈ l, f x = false) ∨ ∃ p x, l.findIdx? f = some p ∧ l[p]? = some x ∧ f x = true := by
  cases h : l.findIdx? f with
  | none => exact .inl ⟨rfl, List.findIdx?_eq_none_iff.1 h⟩
  | some p =>
    obtain ⟨hp, hf, _⟩ := List.findIdx?_eq_some_iff_getElem.1 h
    exact .inr ⟨p, l[p], rfl, List.getElem?_eq_getElem hp, hf⟩
theorem under_eq (l : List At.Try) : At.under l = ((l.filter (fun a => decide (a.state = 0))).length, (l.filter (fun a => decide (a.state = 0))).getLastD At.zt) := by
  suffices H : ∀ (l : List At.Try) (r : Nat × At.Try), l.foldl (fun r t => if t.state = 0 then (r.1 + 1, t) else r) r = (r.1 + (l.filter (fun a => decide (a.state = 0))).length, (l.filter (fun a => decide (a.state = 0))).getLastD r.2) by
    have := H l (0, At.zt)
    rw [Nat.zero_add] at this
    exact this
  intro l
  induction l with
  | nil => intro r; rfl
  | cons a l ih =>
    intro r
    rw [List.foldl_cons, ih]
    by_cases ha : a.state = 0
    · rw [if_pos ha, List.filter_cons, if_pos (decide_eq_true ha)]
      simp only [List.length_cons]
      rw [List.getLastD_cons]
      congr 1
      omega
    · rw [if_neg ha, List.filter_cons, if_neg (by rw [decide_eq_false ha]; exact Bool.false_ne_true)]
theorem ARel.new (maps reduces limit patience : Int) : ARel (At.new maps reduces limit patience) (Ar.new maps reduces limit patience) := by
  refine ⟨rfl, by simp [At.new, Ar.new], rfl, rfl, fun i k hk => ?_, fun x hx => by cases hx⟩
  obtain rfl : k = At.empty := (List.mem_replicate.1 (List.mem_of_getElem? hk)).2
  rfl
section
variable {S : At.Bd} {R : Ar.Bd} (h : ARel S R) {N : Nat} (ho : BOk S N)
include h
theorem any_of (f : Ar.Try → Bool) {i : Nat} {k : At.Task} (hk : S.tasks[i]? = some k) (hf : ∀ x, f x = true → ofT i x = true) : R.l.any f = (asRef i k).any f := by
  rw [← h.ent i k hk, List.any_filter]
  congr 1
  funext x
  cases hx : f x with
  | true => rw [hf x hx]; rfl
  | false => rw [Bool.and_false]
theorem count_of (f : Ar.Try → Bool) {i : Nat} {k : At.Task} (hk : S.tasks[i]? = some k) (hf : ∀ x, f x = true → ofT i x = true) : R.l.countP f = (asRef i k).countP f := by
  rw [← h.ent i k hk, List.countP_filter]
  congr 1
  funext x
  cases hx : f x with
  | true => rw [hf x hx]; rfl
  | false => rfl
theorem filter_of (f : Ar.Try → Bool) {i : Nat} {k : At.Task} (hk : S.tasks[i]? = some k) (hf : ∀ x, f x = true → ofT i x = true) : R.l.filter f = (asRef i k).filter f := by
  rw [← h.ent i k hk, List.filter_filter]
  congr 1
  funext x
  cases hx : f x with
  | true => rw [hf x hx]; rfl
  | false => rfl
theorem won_out {t : Int} (ht : ¬ (0 ≤ t ∧ t < (S.tasks.length : Int))) : Ar.won R t = false := by
  unfold Ar.won
  rw [List.any_eq_false]
  intro x hx
  have := h.dom x hx
  unfold Ar.hit
  rw [decide_eq_false (by omega)]
  exact Bool.false_ne_true
include ho
theorem won_at {i : Nat} {k : At.Task} (hk : S.tasks[i]? = some k) : Ar.won R (i : Int) = decide (k.winner ≠ 0) := by
  unfold Ar.won
  rw [any_of h _ hk fun x hx => by unfold Ar.hit at hx; rw [Bool.and_eq_true] at hx; exact hx.1]
  have hw := ho.win k (List.mem_of_getElem? hk)
  by_cases h0 : k.winner = 0
  · rw [decide_eq_false (by omega), List.any_eq_false]
    intro x hx
    obtain ⟨j, hj⟩ := List.mem_iff_getElem?.1 hx
    rw [asRef_get] at hj
    obtain ⟨a, _, rfl⟩ := Option.map_eq_some_iff.1 hj
    unfold Ar.hit
    dsimp only
    rw [decide_eq_false (show ¬ k.winner = (j : Int) + 1 by omega), Bool.and_false]
    exact Bool.false_ne_true
  · rw [decide_eq_true h0, List.any_eq_true]
    obtain ⟨a, ha, _⟩ := (ho.tk k (List.mem_of_getElem? hk)).good h0
    refine ⟨⟨(i : Int), ((k.winner - 1).toNat : Int) + 1, a.node, a.begun, a.state, decide (k.winner = ((k.winner - 1).toNat : Int) + 1)⟩, List.mem_of_getElem? (i := (k.winner - 1).toNat) (by rw [asRef_get, ha]; rfl), ?_⟩
    unfold Ar.hit
    dsimp only
    rw [decide_eq_true rfl, decide_eq_true (by omega)]
    rfl
/-- who has won -/
theorem who {t : Int} : (Ar.won R t = (At.winner S t).2.2) ∧ (∀ (p : Nat) (x : Ar.Try), R.l.findIdx? (Ar.hit t) = some p → R.l[p]? = some x → (At.winner S t).1 = x.node ∧ (At.winner S t).2.1 = x.num) ∧ (Ar.won R t = false → (At.winner S t).1 = 0 ∧ (At.winner S t).2.1 = 0) := by
  by_cases hin : 0 ≤ t ∧ t < (S.tasks.length : Int)
  · obtain ⟨i, rfl⟩ : ∃ i : Nat, t = (i : Int) := ⟨t.toNat, by omega⟩
    obtain ⟨k, hk⟩ : ∃ k, S.tasks[i]? = some k := ⟨S.tasks[i]'(by omega), List.getElem?_eq_getElem _⟩
    have hwa := won_at h ho hk
    have hw := ho.win k (List.mem_of_getElem? hk)
    by_cases h0 : k.winner = 0
    · have e : At.winner S (i : Int) = (0, 0, false) := by
        unfold At.winner
        rw [if_pos hin.1, Int.toNat_natCast, hk]
        dsimp only
        rw [if_pos h0]
      rw [e, hwa, decide_eq_false (by omega)]
      refine ⟨rfl, fun p x hp _ => ?_, fun _ => ⟨rfl, rfl⟩⟩
      rw [decide_eq_false (by omega)] at hwa
      have : R.l.findIdx? (Ar.hit (i : Int)) = none := by
        rw [List.findIdx?_eq_none_iff]
        intro y hy
        have := List.any_eq_false.1 hwa y hy
        simpa using this
      rw [this] at hp
      cases hp
    · obtain ⟨a, ha, _⟩ := (ho.tk k (List.mem_of_getElem? hk)).good h0
      have e : At.winner S (i : Int) = (a.node, k.winner, true) := by
        unfold At.winner
        rw [if_pos hin.1, Int.toNat_natCast, hk]
        dsimp only
        rw [if_neg h0, ha]
      rw [e, hwa, decide_eq_true h0]
      refine ⟨rfl, fun p x hp hx => ?_, fun e => by cases e⟩
      rw [List.findIdx?_eq_some_iff_getElem] at hp
      obtain ⟨hpl, hpf, _⟩ := hp
      rw [(List.getElem?_eq_some_iff.1 hx).2] at hpf
      unfold Ar.hit at hpf
      rw [Bool.and_eq_true] at hpf
      have hm : x ∈ asRef i k := by
        rw [← h.ent i k hk, List.mem_filter]
        exact ⟨List.mem_of_getElem? hx, hpf.1⟩
      obtain ⟨j, hj⟩ := List.mem_iff_getElem?.1 hm
      rw [asRef_get] at hj
      obtain ⟨b, hb, rfl⟩ := Option.map_eq_some_iff.1 hj
      have hwj := of_decide_eq_true hpf.2
      dsimp only at hwj ⊢
      have : (k.winner - 1).toNat = j := by omega
      rw [this, hb] at ha
      rw [Option.some.inj ha]
      exact ⟨rfl, hwj⟩
  · have e := winner_out hin
    have hwo := won_out h hin
    rw [e, hwo]
    refine ⟨rfl, fun p x hp _ => ?_, fun _ => ⟨rfl, rfl⟩⟩
    have : R.l.findIdx? (Ar.hit t) = none := by
      rw [List.findIdx?_eq_none_iff]
      intro y hy
      have := List.any_eq_false.1 hwo y hy
      simpa using this
    rw [this] at hp
    cases hp
theorem wonAll : ((List.range R.maps).all fun i => Ar.won R (i : Int)) = decide (S.opn = 0) := by
  have h1 : ((List.range R.maps).all fun i => Ar.won R (i : Int)) = (S.tasks.take S.maps).all fun k => !isOpen k := by
    rw [Bool.eq_iff_iff, List.all_eq_true, List.all_eq_true]
    constructor
    · intro hh k hk
      obtain ⟨j, hj⟩ := List.mem_iff_getElem?.1 hk
      rw [List.getElem?_take] at hj
      split at hj
      · rename_i hjm
        have := hh j (List.mem_range.2 (by rw [h.maps]; exact hjm))
        rw [won_at h ho hj] at this
        unfold isOpen
        have := of_decide_eq_true this
        rw [decide_eq_false this]
        rfl
      · cases hj
    · intro hh i hi
      have hi := List.mem_range.1 hi
      rw [h.maps] at hi
      obtain ⟨k, hk⟩ : ∃ k, S.tasks[i]? = some k := ⟨S.tasks[i]'(by have := ho.maps; omega), List.getElem?_eq_getElem _⟩
      have := hh k (List.mem_of_getElem? (i := i) (by rw [List.getElem?_take, if_pos hi]; exact hk))
      rw [won_at h ho hk]
      unfold isOpen at this
      simpa using this
  rw [h1]
  have h2 := ho.opn
  by_cases h0 : S.opn = 0
  · rw [decide_eq_true h0]
    have h3 : (S.tasks.take S.maps).countP isOpen = 0 := by omega
    rw [List.countP_eq_zero] at h3
    rw [List.all_eq_true]
    intro k hk
    have := h3 k hk
    simpa using this
  · rw [decide_eq_false h0]
    rw [List.all_eq_false]
    have h3 : 0 < (S.tasks.take S.maps).countP isOpen := by omega
    obtain ⟨k, hk, hf⟩ := List.countP_pos_iff.1 h3
    exact ⟨k, hk, by rw [hf]; exact Bool.false_ne_true⟩
theorem may_at {i : Nat} {k : At.Task} (hk : S.tasks[i]? = some k) : Ar.may R (i : Int) = At.may S i k := by
  unfold Ar.may At.may
  rw [won_at h ho hk, wonAll h ho, h.maps]
  congr 1
  · by_cases h0 : k.winner = 0 <;> simp [h0]
  · congr 1
    exact decide_eq_decide.2 (by omega)
theorem fulls_at {i : Nat} {k : At.Task} (hk : S.tasks[i]? = some k) : ((R.l.countP (Ar.isFull (i : Int)) : Nat) : Int) = k.full := by
  rw [count_of h _ hk fun x hx => by unfold Ar.isFull at hx; rw [Bool.and_eq_true] at hx; exact hx.1, (ho.tk k (List.mem_of_getElem? hk)).full]
  congr 1
  rw [← back_asRef i k, List.countP_map]
  refine List.countP_congr fun x hx => ?_
  unfold Ar.isFull isFull Function.comp back
  dsimp only
  rw [asRef_task hx]
  simp
theorem dead_eq : Ar.dead R = S.dead := by
  rw [Bool.eq_iff_iff, ho.dead]
  unfold Ar.dead
  rw [List.any_eq_true]
  constructor
  · rintro ⟨q, hq, hl⟩
    have hq := List.mem_range.1 hq
    rw [h.len] at hq
    have hl := of_decide_eq_true hl
    rw [fulls_at h ho (List.getElem?_eq_getElem hq), h.limit] at hl
    exact ⟨q, _, List.getElem?_eq_getElem hq, hl⟩
  · rintro ⟨q, k, hk, hl⟩
    refine ⟨q, List.mem_range.2 (by rw [h.len]; exact (List.getElem?_eq_some_iff.1 hk).1), ?_⟩
    rw [fulls_at h ho hk, h.limit]
    exact decide_eq_true hl
theorem fin_eq : Ar.fin R = At.fin S := by
  unfold Ar.fin At.fin
  rw [Bool.eq_iff_iff, List.all_eq_true, List.all_eq_true]
  have hl := h.len
  rw [h.maps] at hl
  constructor
  · intro hh k hk
    obtain ⟨j, hj⟩ := List.mem_iff_getElem?.1 hk
    rw [List.getElem?_drop] at hj
    have hjl := (List.getElem?_eq_some_iff.1 hj).1
    have := hh j (List.mem_range.2 (by omega))
    rw [h.maps, won_at h ho hj] at this
    exact this
  · intro hh j hj
    have hj := List.mem_range.1 hj
    have hjl : S.maps + j < S.tasks.length := by omega
    rw [h.maps, won_at h ho (List.getElem?_eq_getElem hjl)]
    exact hh _ (List.mem_of_getElem? (i := j) (by rw [List.getElem?_drop]; exact List.getElem?_eq_getElem hjl))
theorem runs_at {i : Nat} {k : At.Task} (hk : S.tasks[i]? = some k) : (Ar.runs R.l (i : Int)).map back = k.tries.filter (fun a => decide (a.state = 0)) := by
  have _ho := ho
  unfold Ar.runs
  rw [filter_of h _ hk fun x hx => by unfold Ar.isRun at hx; rw [Bool.and_eq_true] at hx; exact hx.1]
  rw [← back_asRef i k, List.filter_map]
  congr 1
  refine List.filter_congr fun x hx => ?_
  unfold Ar.isRun Function.comp back
  dsimp only
  rw [asRef_task hx]
  simp
theorem under_at {i : Nat} {k : At.Task} (hk : S.tasks[i]? = some k) : (At.under k.tries).1 = (Ar.runs R.l (i : Int)).length ∧ (At.under k.tries).2 = back (Ar.lastR R.l (i : Int)) := by
  rw [under_eq, ← runs_at h ho hk]
  refine ⟨by rw [List.length_map], ?_⟩
  unfold Ar.lastR
  generalize Ar.runs R.l (i : Int) = l
  rw [List.getLastD_eq_getLast?, List.getLastD_eq_getLast?, List.getLast?_map]
  cases l.getLast? <;> rfl
theorem idle_at {i : Nat} (hi : i < S.tasks.length) : Ar.isIdle R i = At.isIdle S i := by
  have hk := List.getElem?_eq_getElem hi
  unfold Ar.isIdle At.isIdle
  rw [hk]
  dsimp only
  rw [may_at h ho hk, (under_at h ho hk).1]
theorem slow_at {i : Nat} (hi : i < S.tasks.length) (node now : Int) : Ar.isSlow R node now i = At.isSlow S node now i := by
  have hk := List.getElem?_eq_getElem hi
  unfold Ar.isSlow At.isSlow
  rw [hk]
  dsimp only
  rw [may_at h ho hk, (under_at h ho hk).1, (under_at h ho hk).2, h.pat]
  congr 3
  exact decide_eq_decide.2 (by show _ ↔ S.patience ≤ At.clamp now 0 1099511627776 - (Ar.lastR R.l (i : Int)).begun; omega)
theorem ready_eq (node now : Int) : Ar.ready R node now = At.ready S node now := by
  have e1 : Ar.idle R S.tasks.length = At.idle S S.tasks.length := by
    unfold Ar.idle At.idle
    congr 1
    exact List.filter_congr fun i hi => idle_at h ho (List.mem_range.1 hi)
  have e2 : Ar.slow R node now S.tasks.length = At.slow S node now S.tasks.length := by
    unfold Ar.slow At.slow
    congr 1
    exact List.filter_congr fun i hi => slow_at h ho (List.mem_range.1 hi) node now
  unfold Ar.ready At.ready
  rw [h.len, e1, e2, dead_eq h ho]
theorem rel_start (t node now : Int) : (Ar.start R t node now).1 = (At.start S t node now).1 ∧ ARel (At.start S t node now).2 (Ar.start R t node now).2 := by
  have hl := h.len
  unfold Ar.start At.start
  by_cases h0 : 0 ≤ t
  · obtain ⟨i, rfl⟩ : ∃ i : Nat, t = (i : Int) := ⟨t.toNat, by omega⟩
    rw [if_pos h0, Int.toNat_natCast]
    cases hk : S.tasks[i]? with
    | none =>
      have := List.getElem?_eq_none_iff.1 hk
      rw [if_neg (by omega)]
      exact ⟨rfl, h⟩
    | some k =>
      have hi := (List.getElem?_eq_some_iff.1 hk).1
      dsimp only
      rw [dead_eq h ho, may_at h ho hk]
      by_cases hc : S.dead = false ∧ At.may S i k = true
      · have hcn : (R.l.countP (fun x => decide (x.task = (i : Int)))) = k.tries.length := by
          rw [List.countP_eq_length_filter]
          have := congrArg List.length (h.ent i k hk)
          unfold asRef at this
          rw [List.length_mapIdx] at this
          exact this
        rw [if_pos ⟨h0, by omega, hc.1, hc.2⟩, if_pos hc, hcn]
        refine ⟨rfl, h.maps, by rw [hl]; simp, h.limit, h.pat, fun j q hq => ?_, fun x hx => ?_⟩
        · rw [List.filter_append]
          by_cases e : i = j
          · subst e
            rw [List.getElem?_set_self hi] at hq
            obtain rfl := Option.some.inj hq
            rw [h.ent i k hk]
            have hof : ofT i ⟨(i : Int), (k.tries.length : Int) + 1, node, At.clamp now 0 1099511627776, 0, false⟩ = true := decide_eq_true rfl
            rw [List.filter_cons, if_pos hof, List.filter_nil]
            unfold asRef
            rw [List.mapIdx_append]
            congr 1
            have hw := (ho.win k (List.mem_of_getElem? hk)).2
            simp only [List.mapIdx_cons, List.mapIdx_nil, Nat.zero_add]
            rw [decide_eq_false (by omega)]
          · rw [List.getElem?_set_ne e] at hq
            rw [h.ent j q hq]
            have hof : ofT j ⟨(i : Int), (k.tries.length : Int) + 1, node, At.clamp now 0 1099511627776, 0, false⟩ = false := decide_eq_false (by dsimp only; omega)
            rw [List.filter_cons, hof]
            simp
        · rw [List.length_set]
          rcases List.mem_append.1 hx with hx | hx
          · exact h.dom x hx
          · obtain rfl := List.mem_singleton.1 hx
            exact ⟨h0, by dsimp only; omega⟩
      · rw [if_neg (fun e => hc ⟨e.2.2.1, e.2.2.2⟩), if_neg hc]
        exact ⟨rfl, h⟩
  · rw [if_neg h0, if_neg (fun e => h0 e.1)]
    exact ⟨rfl, h⟩
/-- an attempt becomes another -/
theorem rel_set {i : Nat} {k k' : At.Task} (hk : S.tasks[i]? = some k) {p j : Nat} {x : Ar.Try} (hx : R.l[p]? = some x) (hxt : x.task = (i : Int)) (hxn : x.num = (j : Int) + 1) {x' : Ar.Try} (ht' : x'.task = (i : Int)) (hk' : asRef i k' = (asRef i k).set j x') (o' : Int) (d' : Bool) :
    ARel { S with tasks := S.tasks.set i k', opn := o', dead := d' } { R with l := R.l.set p x' } := by
  have _ho := ho
  have hi := (List.getElem?_eq_some_iff.1 hk).1
  refine ⟨h.maps, by rw [List.length_set]; exact h.len, h.limit, h.pat, fun q kq hq => ?_, fun y hy => ?_⟩
  · by_cases e : i = q
    · subst e
      rw [List.getElem?_set_self hi] at hq
      obtain rfl := Option.some.inj hq
      obtain ⟨q, hq1, hq2⟩ := filter_set (f := ofT i) (x' := x') hx (decide_eq_true hxt) (decide_eq_true ht')
      rw [h.ent i k hk] at hq1 hq2
      rw [asRef_get] at hq1
      obtain ⟨a, _, ha⟩ := Option.map_eq_some_iff.1 hq1
      have : q = j := by
        rw [← ha] at hxn
        dsimp only at hxn
        omega
      rw [hq2, hk', this]
    · rw [List.getElem?_set_ne e] at hq
      rw [← h.ent q kq hq]
      exact filter_set_out hx (decide_eq_false (by omega)) (decide_eq_false (by omega))
  · rw [List.length_set]
    rcases List.mem_or_eq_of_mem_set hy with hy | rfl
    · exact h.dom y hy
    · rw [ht']; omega
/-- an entry of the reference's is one of the task's tries -/
theorem entry {p : Nat} {x : Ar.Try} (hx : R.l[p]? = some x) : ∃ (i : Nat) (k : At.Task) (j : Nat) (a : At.Try), x.task = (i : Int) ∧ S.tasks[i]? = some k ∧ k.tries[j]? = some a ∧ x = ⟨(i : Int), (j : Int) + 1, a.node, a.begun, a.state, decide (k.winner = (j : Int) + 1)⟩ := by
  have _ho := ho
  have hd := h.dom x (List.mem_of_getElem? hx)
  obtain ⟨i, hi⟩ : ∃ i : Nat, x.task = (i : Int) := ⟨x.task.toNat, by omega⟩
  have hil : i < S.tasks.length := by omega
  obtain ⟨k, hk⟩ : ∃ k, S.tasks[i]? = some k := ⟨_, List.getElem?_eq_getElem hil⟩
  have hm : x ∈ asRef i k := by
    rw [← h.ent i k hk, List.mem_filter]
    exact ⟨List.mem_of_getElem? hx, decide_eq_true hi⟩
  obtain ⟨j, hj⟩ := List.mem_iff_getElem?.1 hm
  rw [asRef_get] at hj
  obtain ⟨a, ha, e⟩ := Option.map_eq_some_iff.1 hj
  exact ⟨i, k, j, a, hi, hk, ha, e.symm⟩
theorem entry_mem {i : Nat} {k : At.Task} (hk : S.tasks[i]? = some k) {j : Nat} {a : At.Try} (ha : k.tries[j]? = some a) : (⟨(i : Int), (j : Int) + 1, a.node, a.begun, a.state, decide (k.winner = (j : Int) + 1)⟩ : Ar.Try) ∈ R.l := by
  have _ho := ho
  have hm : (⟨(i : Int), (j : Int) + 1, a.node, a.begun, a.state, decide (k.winner = (j : Int) + 1)⟩ : Ar.Try) ∈ asRef i k := List.mem_of_getElem? (i := j) (by rw [asRef_get, ha]; rfl)
  rw [← h.ent i k hk] at hm
  exact (List.mem_filter.1 hm).1
theorem rel_report (t n how : Int) : (Ar.report R t n how).1 = (At.report S t n how).1 ∧ ARel (At.report S t n how).2 (Ar.report R t n how).2 := by
  by_cases hh : 1 ≤ how ∧ how ≤ 3
  · rcases find_of (Ar.isIt t n) R.l with ⟨hf, hn⟩ | ⟨p, x, hf, hx, hfx⟩
    · have hr : Ar.report R t n how = (false, R) := by unfold Ar.report; rw [if_pos hh, hf]
      have ha : At.report S t n how = (false, S) := by
        unfold At.report
        by_cases h0 : 0 ≤ t
        · rw [if_pos h0]
          cases hk : S.tasks[t.toNat]? with
          | none => rfl
          | some k =>
            dsimp only
            by_cases hc : 1 ≤ n ∧ 1 ≤ how ∧ how ≤ 3
            · rw [if_pos hc]
              cases ha : k.tries[(n - 1).toNat]? with
              | none => rfl
              | some a =>
                dsimp only
                by_cases hs : a.state = 0
                · exfalso
                  have := hn _ (entry_mem h ho hk ha)
                  unfold Ar.isIt at this
                  dsimp only at this
                  rw [decide_eq_true (by omega), decide_eq_true (by omega), decide_eq_true hs] at this
                  cases this
                · rw [if_neg hs]
            · rw [if_neg hc]
        · rw [if_neg h0]
      rw [hr, ha]
      exact ⟨rfl, h⟩
    · obtain ⟨i, k, j, a, hxt, hk, ha, hxe⟩ := entry h ho hx
      unfold Ar.isIt at hfx
      rw [Bool.and_eq_true, Bool.and_eq_true] at hfx
      have f1 := of_decide_eq_true hfx.1
      have f2 := of_decide_eq_true hfx.2.1
      have f3 := of_decide_eq_true hfx.2.2
      have hxn : x.num = (j : Int) + 1 := by rw [hxe]
      have hxs : x.state = a.state := by rw [hxe]
      have has : a.state = 0 := hxs.symm.trans f3
      obtain rfl : t = (i : Int) := f1.symm.trans hxt
      have hnj : n = (j : Int) + 1 := f2.symm.trans hxn
      have hw := won_at h ho hk
      have hr : Ar.report R (i : Int) n how = (true, { R with l := R.l.set p { x with state := how, win := decide (how = 1) && !Ar.won R (i : Int) } }) := by
        unfold Ar.report
        rw [if_pos hh, hf]
        dsimp only
        rw [hx]
      have har : At.report S (i : Int) n how = (true, At.rep S i k j a n how) := by
        unfold At.report
        rw [if_pos (by omega), Int.toNat_natCast, hk]
        dsimp only
        rw [if_pos (by omega), show (n - 1).toNat = j by omega, ha]
        dsimp only
        rw [if_pos has]
      rw [hr, har, hw]
      refine ⟨rfl, ?_⟩
      have hnw : k.winner ≠ (j : Int) + 1 := fun e => by
        obtain ⟨a', ha', hs'⟩ := (ho.tk k (List.mem_of_getElem? hk)).good (by omega)
        rw [show (k.winner - 1).toNat = j by omega, ha] at ha'
        obtain rfl := Option.some.inj ha'
        omega
      have hset : ∀ (w' f' : Int), (w' = k.winner ∨ w' = (j : Int) + 1 ∧ k.winner = 0) → asRef i ⟨k.tries.set j { a with state := how }, w', f'⟩ = (asRef i k).set j { x with state := how, win := decide (w' = (j : Int) + 1) } := fun w' f' hw' => by
        apply List.ext_getElem?
        intro q
        rw [asRef_get, List.getElem?_set, List.getElem?_set]
        have hjl := (List.getElem?_eq_some_iff.1 ha).1
        by_cases e : j = q
        · subst e
          rw [if_pos rfl, if_pos rfl, if_pos hjl, if_pos (by unfold asRef; rw [List.length_mapIdx]; exact hjl), hxe]
          rfl
        · rw [if_neg e, if_neg e, asRef_get]
          dsimp only
          cases k.tries[q]? with
          | none => rfl
          | some b =>
            simp only [Option.map_some]
            congr 2
            refine decide_eq_decide.2 ?_
            omega
      unfold At.rep
      by_cases h3 : how = 3
      · rw [if_pos h3]
        refine rel_set h ho hk hx hxt hxn (by exact hxt) ?_ _ _
        rw [hset _ _ (.inl rfl)]
        congr 2
        rw [decide_eq_false hnw, decide_eq_false (by omega)]
        rfl
      · rw [if_neg h3]
        by_cases h1 : how = 1 ∧ k.winner = 0
        · rw [if_pos h1]
          refine rel_set h ho hk hx hxt hxn (by exact hxt) ?_ _ _
          rw [hset _ _ (.inr ⟨hnj, h1.2⟩)]
          congr 2
          rw [decide_eq_true hnj, decide_eq_true h1.1, h1.2]
          rfl
        · rw [if_neg h1]
          refine rel_set h ho hk hx hxt hxn (by exact hxt) ?_ _ _
          rw [hset _ _ (.inl rfl)]
          congr 2
          rw [decide_eq_false hnw]
          by_cases hq : how = 1
          · have hkw : k.winner ≠ 0 := fun e => h1 ⟨hq, e⟩
            rw [decide_eq_true hq, decide_eq_true hkw]
            rfl
          · rw [decide_eq_false hq]
            rfl
  · have hr : Ar.report R t n how = (false, R) := by unfold Ar.report; rw [if_neg hh]
    have ha : At.report S t n how = (false, S) := by
      unfold At.report
      split
      · split
        · rw [if_neg (fun e => hh e.2)]
        · rfl
      · rfl
    rw [hr, ha]
    exact ⟨rfl, h⟩
theorem rel_lost (t n : Int) : (Ar.lost R t n).1 = (At.lost S t n).1 ∧ ARel (At.lost S t n).2 (Ar.lost R t n).2 := by
  rcases find_of (Ar.hit t) R.l with ⟨hf, hn⟩ | ⟨p, x, hf, hx, hfx⟩
  · have hr : Ar.lost R t n = (false, R) := by unfold Ar.lost; rw [hf]
    have ha : At.lost S t n = (false, S) := by
      unfold At.lost
      by_cases h0 : 0 ≤ t
      · rw [if_pos h0]
        cases hk : S.tasks[t.toNat]? with
        | none => rfl
        | some k =>
          dsimp only
          by_cases hc : t.toNat < S.maps ∧ 1 ≤ n ∧ k.winner = n
          · rw [if_pos hc]
            cases ha : k.tries[(n - 1).toNat]? with
            | none => rfl
            | some a =>
              exfalso
              have := hn _ (entry_mem h ho hk ha)
              unfold Ar.hit at this
              dsimp only at this
              rw [decide_eq_true (by omega), decide_eq_true (by omega)] at this
              cases this
          · rw [if_neg hc]
      · rw [if_neg h0]
    rw [hr, ha]
    exact ⟨rfl, h⟩
  · obtain ⟨i, k, j, a, hxt, hk, ha, hxe⟩ := entry h ho hx
    unfold Ar.hit at hfx
    rw [Bool.and_eq_true] at hfx
    have f1 := of_decide_eq_true hfx.1
    have f2 : k.winner = (j : Int) + 1 := by
      have := hfx.2
      rw [hxe] at this
      exact of_decide_eq_true this
    have hxn : x.num = (j : Int) + 1 := by rw [hxe]
    obtain rfl : t = (i : Int) := f1.symm.trans hxt
    have hr : Ar.lost R (i : Int) n = if i < S.maps ∧ n = (j : Int) + 1 then (true, { R with l := R.l.set p { x with state := 4, win := false } }) else (false, R) := by
      unfold Ar.lost
      rw [hf]
      dsimp only
      rw [hx]
      dsimp only
      rw [h.maps, hxn]
      by_cases hc : i < S.maps ∧ n = (j : Int) + 1
      · rw [if_pos hc, if_pos (by omega)]
      · rw [if_neg hc, if_neg (by omega)]
    have har : At.lost S (i : Int) n = if i < S.maps ∧ n = (j : Int) + 1 then (true, At.lose S i k j a) else (false, S) := by
      unfold At.lost
      rw [if_pos (by omega), Int.toNat_natCast, hk]
      dsimp only
      by_cases hc : i < S.maps ∧ n = (j : Int) + 1
      · rw [if_pos hc, if_pos (by omega), show (n - 1).toNat = j by omega, ha]
      · rw [if_neg hc, if_neg (by omega)]
    rw [hr, har]
    by_cases hc : i < S.maps ∧ n = (j : Int) + 1
    · rw [if_pos hc, if_pos hc]
      refine ⟨rfl, ?_⟩
      unfold At.lose
      refine rel_set h ho hk hx hxt hxn (by exact hxt) ?_ _ _
      apply List.ext_getElem?
      intro q
      rw [asRef_get, List.getElem?_set, List.getElem?_set]
      have hjl := (List.getElem?_eq_some_iff.1 ha).1
      by_cases e : j = q
      · subst e
        rw [if_pos rfl, if_pos rfl, if_pos hjl, if_pos (by unfold asRef; rw [List.length_mapIdx]; exact hjl), hxe]
        simp only [Option.map_some]
        first
          | (congr 2; done)
          | (congr 2; exact decide_eq_false (by omega))
      · rw [if_neg e, if_neg e, asRef_get]
        dsimp only
        cases k.tries[q]? with
        | none => rfl
        | some b =>
          simp only [Option.map_some]
          congr 2
          exact decide_eq_decide.2 (by omega)
    · rw [if_neg hc, if_neg hc]
      exact ⟨rfl, h⟩
theorem rel_gone (node : Int) : ARel (At.gone S node) (Ar.gone R node) := by
  have _ho := ho
  have ht : ∀ x : Ar.Try, (Ar.goA node x).task = x.task := fun x => by unfold Ar.goA; split <;> rfl
  refine ⟨h.maps, by show _ = (S.tasks.map _).length; rw [List.length_map]; exact h.len, h.limit, h.pat, fun i k hk => ?_, fun x hx => ?_⟩
  · have hk : (S.tasks.map (At.goK node))[i]? = some k := hk
    rw [List.getElem?_map] at hk
    obtain ⟨k0, hk0, rfl⟩ := Option.map_eq_some_iff.1 hk
    show (R.l.map (Ar.goA node)).filter (ofT i) = _
    rw [List.filter_map]
    have e : (ofT i ∘ Ar.goA node) = ofT i := by
      funext x
      show decide ((Ar.goA node x).task = (i : Int)) = decide (x.task = (i : Int))
      rw [ht]
    rw [e, h.ent i k0 hk0]
    apply List.ext_getElem?
    intro q
    rw [List.getElem?_map, asRef_get, asRef_get]
    show _ = ((k0.tries.map (At.goA node))[q]?).map _
    rw [List.getElem?_map]
    cases k0.tries[q]? with
    | none => rfl
    | some a =>
      simp only [Option.map_some]
      congr 1
      unfold Ar.goA At.goA At.goK
      dsimp only
      by_cases hc : a.node = node ∧ a.state = 0
      · rw [if_pos hc, if_pos hc]
      · rw [if_neg hc, if_neg hc]
  · show _ ∧ _ < ((S.tasks.map _).length : Int)
    rw [List.length_map]
    obtain ⟨y, hy, rfl⟩ := List.mem_map.1 hx
    rw [ht]
    exact h.dom y hy
end
end Go.Proofs.Ytkcloaoaldklhaa
