/- attempts: how a board changes: a cell of the board, of a task, of a try. (Under way.) -/
import Derived.Test.YtahpbcacfdkdjaaBoard4
namespace Go.Proofs.Ytahpbcacfdkdjaa
open Go.RowKit
set_option linter.unusedVariables false
set_option linter.unusedSimpArgs false
/-- what a call on the board may change -/
def BdS (b g : Nat) (vs : List Value) : Nat → Prop := fun k => k = b ∨ k = g ∨ ∃ v ∈ vs, v.ownBlock = some k
structure BdR (w : World) (b g : Nat) (vs : List Value) (w' : World) (vs' : List Value) : Prop where
  lies : ∀ v ∈ vs', ∀ k, v.ownBlock = some k → (∃ u ∈ vs, u.ownBlock = some k) ∨ w.heap.size ≤ k
  fr : Fr w w' (BdS b g vs)
theorem BdR.refl (w : World) (b g : Nat) (vs : List Value) : BdR w b g vs w vs := ⟨fun v hv k hk => .inl ⟨v, hv, hk⟩, Fr.refl _ _⟩
theorem BdR.trans {a c d : World} {b g : Nat} {vs vs' vs'' : List Value} (h : BdR a b g vs c vs') (k : BdR c b g vs' d vs'') : BdR a b g vs d vs'' := by
  refine ⟨fun v hv q hq => ?_, h.fr.trans k.fr ?_⟩
  · rcases k.lies v hv q hq with ⟨u, hu, hq2⟩ | hq2
    · exact h.lies u hu q hq2
    · exact .inr (Nat.le_trans h.fr.size hq2)
  · intro x hx hs
    rcases hs with rfl | rfl | ⟨u, hu, hq⟩
    · exact .inl rfl
    · exact .inr (.inl rfl)
    · rcases h.lies u hu x hq with h2 | h2
      · exact .inr (.inr h2)
      · omega
theorem BdR.below {w w' : World} {b g : Nat} {vs vs' : List Value} (h : BdR w b g vs w' vs') {B : Nat} (hb : B ≤ b) (hg : B ≤ g) (hv : ∀ v ∈ vs, ∀ k, v.ownBlock = some k → B ≤ k) (hs : B ≤ w.heap.size) : Below B w w' ∧ ∀ v ∈ vs', ∀ k, v.ownBlock = some k → B ≤ k := by
  refine ⟨h.fr.below (fun k _ e => ?_) hs, fun v hv' k hk => ?_⟩
  · rcases e with rfl | rfl | ⟨u, hu, hq⟩
    · exact hb
    · exact hg
    · exact hv u hu k hq
  · rcases h.lies v hv' k hk with ⟨u, hu, hq⟩ | hq
    · exact hv u hu k hq
    · omega
/-- 'open' is set -/
theorem BoardAt.setOpen {w : World} {b g : Nat} {vs : List Value} {S : At.Bd} (h : BoardAt w b g vs S) (x : Int) : BoardAt (w.setCell ⟨b, 4, none⟩ (.int .i64 x)) b g vs { S with opn := x } ∧ BdR w b g vs (w.setCell ⟨b, 4, none⟩ (.int .i64 x)) vs := by
  have hf : Fr w (w.setCell ⟨b, 4, none⟩ (.int .i64 x)) (fun k => k = b) := (Fr.refl w _).setCell _ _ fun _ => rfl
  refine ⟨⟨h.len, h.blk.set 4 _, h.tsk.other _ _ (fun e => h.ne e.symm), fun i v t hv ht => own_fr (h.own i v t hv ht) hf fun k hk e => (h.off i v k hv hk).1 e, h.ne, h.off, h.apart⟩, ⟨fun v hv k hk => .inl ⟨v, hv, hk⟩, hf.mono fun k _ e => .inl e⟩⟩
/-- 'dead' is set -/
theorem BoardAt.setDead {w : World} {b g : Nat} {vs : List Value} {S : At.Bd} (h : BoardAt w b g vs S) (x : Bool) : BoardAt (w.setCell ⟨b, 5, none⟩ (.bool x)) b g vs { S with dead := x } ∧ BdR w b g vs (w.setCell ⟨b, 5, none⟩ (.bool x)) vs := by
  have hf : Fr w (w.setCell ⟨b, 5, none⟩ (.bool x)) (fun k => k = b) := (Fr.refl w _).setCell _ _ fun _ => rfl
  refine ⟨⟨h.len, h.blk.set 5 _, h.tsk.other _ _ (fun e => h.ne e.symm), fun i v t hv ht => own_fr (h.own i v t hv ht) hf fun k hk e => (h.off i v k hv hk).1 e, h.ne, h.off, h.apart⟩, ⟨fun v hv k hk => .inl ⟨v, hv, hk⟩, hf.mono fun k _ e => .inl e⟩⟩
theorem zip_len3 {vs : List Value} {ts : List At.Task} : ∀ r ∈ List.zipWith taskC vs ts, r.length = 3 := by
  intro r hr
  obtain ⟨k, hk⟩ := List.mem_iff_getElem?.1 hr
  rw [List.getElem?_zipWith] at hk
  cases h1 : vs[k]? <;> cases h2 : ts[k]? <;> rw [h1, h2] at hk <;> simp at hk
  rw [← hk]; rfl
theorem zip_set {vs : List Value} {ts : List At.Task} {i : Nat} {v : Value} {t' : At.Task} (hv : vs[i]? = some v) (hi : i < ts.length) : (List.zipWith taskC vs ts).set i (taskC v t') = List.zipWith taskC vs (ts.set i t') := by
  apply List.ext_getElem?
  intro k
  rw [List.getElem?_set, List.getElem?_zipWith, List.getElem?_zipWith, List.getElem?_set]
  have hvi := (List.getElem?_eq_some_iff.1 hv).1
  by_cases e : i = k
  · subst e
    rw [if_pos rfl, if_pos rfl, if_pos (by rw [List.length_zipWith]; omega), if_pos hi, hv]
  · rw [if_neg e, if_neg e]
theorem tasksC_set {vs : List Value} {ts : List At.Task} {i : Nat} {v : Value} {t t' : At.Task} (hv : vs[i]? = some v) (ht : ts[i]? = some t) (j : Nat) (hj : j < 3) (x : Value) (he : (taskC v t).set j x = taskC v t') : (tasksC vs ts).set (i * 3 + j) x = tasksC vs (ts.set i t') := by
  unfold tasksC
  rw [flatten_set (sz := 3) zip_len3 (by rw [List.getElem?_zipWith, hv, ht]) hj, he, zip_set hv (List.getElem?_eq_some_iff.1 ht).1]
/-- a number of a task is set: its tries stay -/
theorem BoardAt.setTask {w : World} {b g : Nat} {vs : List Value} {S : At.Bd} (h : BoardAt w b g vs S) {i : Nat} {t t' : At.Task} (ht : S.tasks[i]? = some t) (htr : t'.tries = t.tries) (j : Nat) (hj : j < 3) (x : Value) (he : ∀ v, (taskC v t).set j x = taskC v t') :
    BoardAt (w.setCell ⟨g, i * 3 + j, none⟩ x) b g vs { S with tasks := S.tasks.set i t' } ∧ BdR w b g vs (w.setCell ⟨g, i * 3 + j, none⟩ x) vs := by
  have hf : Fr w (w.setCell ⟨g, i * 3 + j, none⟩ x) (fun k => k = g) := (Fr.refl w _).setCell _ _ fun _ => rfl
  have hi := (List.getElem?_eq_some_iff.1 ht).1
  obtain ⟨v, hv⟩ : ∃ v, vs[i]? = some v := ⟨vs[i]'(by rw [h.len]; exact hi), List.getElem?_eq_getElem _⟩
  refine ⟨⟨by simpa using h.len, ?_, ?_, fun k u s hu hs => ?_, h.ne, h.off, h.apart⟩, ⟨fun v hv k hk => .inl ⟨v, hv, hk⟩, hf.mono fun k _ e => .inr (.inl e)⟩⟩
  · have := h.blk.other ⟨g, i * 3 + j, none⟩ x h.ne
    simpa using this
  · have := h.tsk.set (i * 3 + j) x
    rw [tasksC_set hv ht j hj x (he v)] at this
    exact this
  · have hk : ∃ s', S.tasks[k]? = some s' ∧ s'.tries = s.tries := by
      rw [List.getElem?_set] at hs
      split at hs
      · rename_i e
        subst e
        obtain rfl := Option.some.inj hs
        exact ⟨t, ht, htr.symm⟩
      · exact ⟨s, hs, rfl⟩
    obtain ⟨s', hs', e⟩ := hk
    rw [← e]
    exact own_fr (h.own k u s' hu hs') hf fun q hq e => (h.off k u q hu hq).2 e
theorem triesC_set {l : List At.Try} {j : Nat} {a : At.Try} (ha : l[j]? = some a) (x : Int) : (triesC l).set (j * 3 + 2) (.int .i64 x) = triesC (l.set j { a with state := x }) := by
  unfold triesC
  rw [flatten_set (sz := 3) (fun r hr => by obtain ⟨t, _, rfl⟩ := List.mem_map.1 hr; rfl) (i := j) (j := 2) (r := [.int .i64 a.node, .int .i64 a.begun, .int .i64 a.state]) (by rw [List.getElem?_map, ha]; rfl) (by decide), List.map_set]
  rfl
/-- the state of a try is set -/
theorem BoardAt.setTry {w : World} {b g : Nat} {vs : List Value} {S : At.Bd} (h : BoardAt w b g vs S) {i j : Nat} {t : At.Task} {a : At.Try} (ht : S.tasks[i]? = some t) (ha : t.tries[j]? = some a) :
    ∃ r c, vs[i]? = some (.slice (some ⟨r, 0, none⟩) t.tries.length c) ∧ r < w.heap.size ∧ w.cell? ⟨r, j * 3, none⟩ = some (.int .i64 a.node) ∧ w.cell? ⟨r, j * 3 + 1, none⟩ = some (.int .i64 a.begun) ∧ w.cell? ⟨r, j * 3 + 2, none⟩ = some (.int .i64 a.state) ∧ w.frozen? ⟨r, j * 3 + 2, none⟩ = false ∧
      ∀ x, BoardAt (w.setCell ⟨r, j * 3 + 2, none⟩ (.int .i64 x)) b g vs { S with tasks := S.tasks.set i { t with tries := t.tries.set j { a with state := x } } } ∧ BdR w b g vs (w.setCell ⟨r, j * 3 + 2, none⟩ (.int .i64 x)) vs := by
  have hi := (List.getElem?_eq_some_iff.1 ht).1
  have hj := (List.getElem?_eq_some_iff.1 ha).1
  obtain ⟨v, hv⟩ : ∃ v, vs[i]? = some v := ⟨vs[i]'(by rw [h.len]; exact hi), List.getElem?_eq_getElem _⟩
  have ho := h.own i v t hv ht
  obtain ⟨r, c, rfl, _, hr, hC⟩ := own_some ho (by omega)
  have key : ∀ k, k < 3 → w.cell? ⟨r, j * 3 + k, none⟩ = (tryC a)[k]? ∧ w.frozen? ⟨r, j * 3 + k, none⟩ = false := fun k hk => by
    have hg := triesC_get ha k hk
    have hlt : j * 3 + k < (triesC t.tries).length := by rw [triesC_len]; omega
    obtain ⟨u, hu⟩ : ∃ u, (triesC t.tries)[j * 3 + k]? = some u := ⟨_, List.getElem?_eq_getElem hlt⟩
    have := hC.get hu
    rw [← hg, hu]
    exact this
  refine ⟨r, c, hv, hr, (key 0 (by decide)).1, (key 1 (by decide)).1, (key 2 (by decide)).1, (key 2 (by decide)).2, fun x => ?_⟩
  have hf : Fr w (w.setCell ⟨r, j * 3 + 2, none⟩ (.int .i64 x)) (fun k => k = r) := (Fr.refl w _).setCell _ _ fun _ => rfl
  have hoff := h.off i _ r hv rfl
  have hst := (ho.stored (j * 3 + 2) (.int .i64 x)).1
  rw [triesC_set ha] at hst
  refine ⟨⟨by simpa using h.len, ?_, ?_, fun k u s hu hs => ?_, h.ne, h.off, h.apart⟩, ⟨fun v hv k hk => .inl ⟨v, hv, hk⟩, hf.mono fun k _ e => .inr (.inr ⟨_, List.mem_of_getElem? hv, by rw [e]; rfl⟩)⟩⟩
  · have := h.blk.other ⟨r, j * 3 + 2, none⟩ (.int .i64 x) (fun e => hoff.1 e.symm)
    simpa using this
  · have := h.tsk.other ⟨r, j * 3 + 2, none⟩ (.int .i64 x) (fun e => hoff.2 e.symm)
    have e : tasksC vs (S.tasks.set i { t with tries := t.tries.set j { a with state := x } }) = tasksC vs S.tasks := by
      have h1 := tasksC_set (t' := { t with tries := t.tries.set j { a with state := x } }) hv ht 1 (by decide) (.int .i64 t.winner) rfl
      have h2 := tasksC_set (t' := t) hv ht 1 (by decide) (.int .i64 t.winner) rfl
      rw [← h1, h2]
      congr 1
      apply List.ext_getElem?
      intro q
      rw [List.getElem?_set]
      split
      · rename_i e; subst e; exact ht.symm
      · rfl
    rw [e]
    exact this
  · rw [List.getElem?_set] at hs
    split at hs
    · rename_i e
      subst e
      obtain rfl := Option.some.inj (hv.symm.trans hu)
      obtain rfl := Option.some.inj hs
      rw [List.length_set]
      exact hst
    · rename_i e
      exact own_fr (h.own k u s hu hs) hf fun q hq e2 => e (h.apart i k _ u r hv hu rfl (e2 ▸ hq))
theorem zip_set2 {vs : List Value} {ts : List At.Task} {i : Nat} {v' : Value} {t' : At.Task} (hv : i < vs.length) (hi : i < ts.length) : (List.zipWith taskC vs ts).set i (taskC v' t') = List.zipWith taskC (vs.set i v') (ts.set i t') := by
  apply List.ext_getElem?
  intro k
  rw [List.getElem?_set, List.getElem?_zipWith, List.getElem?_zipWith, List.getElem?_set, List.getElem?_set]
  by_cases e : i = k
  · subst e
    rw [if_pos rfl, if_pos rfl, if_pos rfl, if_pos (by rw [List.length_zipWith]; omega), if_pos hi, if_pos hv]
  · rw [if_neg e, if_neg e, if_neg e]
/-- a try is added -/
theorem BoardAt.addTry {w w' : World} {b g : Nat} {vs : List Value} {S : At.Bd} (h : BoardAt w b g vs S) {i : Nat} {t : At.Task} {a : At.Try} {v v' : Value} (ht : S.tasks[i]? = some t) (hv : vs[i]? = some v)
    (hO : w'.ownsRow 0 49 3 v' (t.tries.length + 1) (triesC t.tries ++ tryC a)) (hG : w.grownBy w' v.ownBlock) (hN : v'.ownBlock = v.ownBlock ∨ ∃ q, v'.ownBlock = some q ∧ w.heap.size ≤ q) :
    BoardAt (w'.setCell ⟨g, i * 3, none⟩ v') b g (vs.set i v') { S with tasks := S.tasks.set i { t with tries := t.tries ++ [a] } } ∧ BdR w b g vs (w'.setCell ⟨g, i * 3, none⟩ v') (vs.set i v') := by
  have hi := (List.getElem?_eq_some_iff.1 ht).1
  have hvi := (List.getElem?_eq_some_iff.1 hv).1
  have hf1 : Fr w w' (fun k => v.ownBlock = some k) := Fr.of_grown hG fun k e => e
  have hf2 : Fr w' (w'.setCell ⟨g, i * 3, none⟩ v') (fun k => k = g) := (Fr.refl w' _).setCell _ _ fun _ => rfl
  have hf : Fr w (w'.setCell ⟨g, i * 3, none⟩ v') (fun k => k = g ∨ v.ownBlock = some k) := (hf1.mono fun k _ e => .inr e).trans hf2 fun k _ e => .inl e
  have hnb : ∀ k, v'.ownBlock = some k → k ≠ b ∧ k ≠ g := fun k hk => by
    rcases hN with e | ⟨q, e, hq⟩
    · exact h.off i v k hv (e ▸ hk)
    · rw [e] at hk
      obtain rfl := Option.some.inj hk
      have := h.blk.lt; have := h.tsk.lt
      omega
  have hother : ∀ (k : Nat) (u : Value) (q : Nat), k ≠ i → vs[k]? = some u → u.ownBlock = some q → v'.ownBlock ≠ some q := fun k u q hk hu hq e => by
    rcases hN with e2 | ⟨q2, e2, hq2⟩
    · exact hk (h.apart k i u v q hu hv hq (e2 ▸ e))
    · rw [e2] at e
      obtain rfl := Option.some.inj e
      by_cases hkt : k < S.tasks.length
      · have := ((h.own k u _ hu (List.getElem?_eq_getElem hkt)).lt q2 hq).2
        omega
      · have := (List.getElem?_eq_some_iff.1 hu).1
        have := h.len
        omega
  refine ⟨⟨by simpa using h.len, ?_, ?_, fun k u s hu hs => ?_, h.ne, fun k u q hu hq => ?_, fun k l u u' q hu hu' hq hq' => ?_⟩, ⟨fun u hu k hk => ?_, hf.mono fun k _ e => ?_⟩⟩
  · have := h.blk.fr hf (fun e => by rcases e with e | e; exact h.ne e; exact (h.off i v b hv e).1 rfl)
    simpa using this
  · have h1 := (h.tsk.fr hf1 (fun e => (h.off i v g hv e).2 rfl)).set (i * 3) v'
    have h2 : (tasksC vs S.tasks).set (i * 3 + 0) v' = tasksC (vs.set i v') (S.tasks.set i { t with tries := t.tries ++ [a] }) := by
      unfold tasksC
      rw [flatten_set (sz := 3) zip_len3 (by rw [List.getElem?_zipWith, hv, ht]) (by decide), ← zip_set2 hvi hi]
      rfl
    rw [Nat.add_zero] at h2
    rw [h2] at h1
    exact h1
  · rw [List.getElem?_set] at hu hs
    by_cases e : i = k
    · subst e
      rw [if_pos rfl, if_pos hvi] at hu
      rw [if_pos rfl, if_pos hi] at hs
      obtain rfl := Option.some.inj hu
      obtain rfl := Option.some.inj hs
      have e1 : triesC (t.tries ++ [a]) = triesC t.tries ++ tryC a := by simp [triesC, tryC]
      rw [List.length_append, e1]
      exact own_fr hO hf2 fun q hq e => (hnb q hq).2 e
    · rw [if_neg e] at hu hs
      exact own_fr (h.own k u s hu hs) hf fun q hq e2 => by
        rcases e2 with e2 | e2
        · exact (h.off k u q hu hq).2 e2
        · exact e (h.apart i k v u q hv hu e2 hq)
  · rw [List.getElem?_set] at hu
    by_cases e : i = k
    · rw [if_pos e, if_pos hvi] at hu
      obtain rfl := Option.some.inj hu
      exact hnb q hq
    · rw [if_neg e] at hu
      exact h.off k u q hu hq
  · rw [List.getElem?_set] at hu hu'
    by_cases e : i = k
    · rw [if_pos e, if_pos hvi] at hu
      obtain rfl := Option.some.inj hu
      by_cases e' : i = l
      · omega
      · rw [if_neg e'] at hu'
        exact absurd hq (hother l u' q (Ne.symm e') hu' hq')
    · rw [if_neg e] at hu
      by_cases e' : i = l
      · rw [if_pos e', if_pos hvi] at hu'
        obtain rfl := Option.some.inj hu'
        exact absurd hq' (hother k u q (Ne.symm e) hu hq)
      · rw [if_neg e'] at hu'
        exact h.apart k l u u' q hu hu' hq hq'
  · rcases List.mem_or_eq_of_mem_set hu with hu | rfl
    · exact .inl ⟨u, hu, hk⟩
    · rcases hN with e | ⟨q, e, hq⟩
      · exact .inl ⟨v, List.mem_of_getElem? hv, e ▸ hk⟩
      · rw [e] at hk
        obtain rfl := Option.some.inj hk
        exact .inr hq
  · rcases e with e | e
    · exact .inr (.inl e)
    · exact .inr (.inr ⟨v, List.mem_of_getElem? hv, e⟩)
end Go.Proofs.Ytahpbcacfdkdjaa
