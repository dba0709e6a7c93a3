/- attempts: what the laws share: acts, a board among other blocks, Ready and Winner on a board in use. -/
import Derived.Test.YtahpbcacfdkdjaaBoardInv
namespace Go.Proofs.Ytahpbcacfdkdjaa
open Go.RowKit
set_option linter.unusedVariables false
set_option linter.unusedSimpArgs false
/-- a block that is no part of the board -/
structure Off (w : World) (b g : Nat) (vs : List Value) (q : Nat) : Prop where
  lt : q < w.heap.size
  nb : q ≠ b
  ng : q ≠ g
  nv : ∀ v ∈ vs, v.ownBlock ≠ some q
theorem Off.not {w : World} {b g : Nat} {vs : List Value} {q : Nat} (h : Off w b g vs q) : ¬ BdS b g vs q := by
  rintro (e | e | ⟨v, hv, e⟩)
  · exact h.nb e
  · exact h.ng e
  · exact h.nv v hv e
theorem Off.step {w w' : World} {b g : Nat} {vs vs' : List Value} {q : Nat} (h : Off w b g vs q) (r : BdR w b g vs w' vs') : Off w' b g vs' q :=
  ⟨Nat.lt_of_lt_of_le h.lt r.fr.size, h.nb, h.ng, fun v hv e => by
    rcases r.lies v hv q e with ⟨u, hu, e2⟩ | e2
    · exact h.nv u hu e2
    · have := h.lt; omega⟩
theorem Off.grow {w w' : World} {b g : Nat} {vs : List Value} {q : Nat} (h : Off w b g vs q) (hs : w.heap.size ≤ w'.heap.size) : Off w' b g vs q := ⟨Nat.lt_of_lt_of_le h.lt hs, h.nb, h.ng, h.nv⟩
theorem Off.new {w w' : World} {b g : Nat} {vs : List Value} {S : At.Bd} (h : BoardAt w b g vs S) (hs : w.heap.size < w'.heap.size) : Off w' b g vs w.heap.size :=
  ⟨hs, by have := h.blk.lt; omega, by have := h.tsk.lt; omega, fun v hv e => by
    obtain ⟨i, hi⟩ := List.mem_iff_getElem?.1 hv
    have hil := (List.getElem?_eq_some_iff.1 hi).1
    have := ((h.own i v _ hi (List.getElem?_eq_getElem (by rw [← h.len]; exact hil))).lt _ e).2
    omega⟩
theorem Off.keep {w w' : World} {b g : Nat} {vs vs' : List Value} {q : Nat} {cs : List Value} {t : TypeId} (h : Off w b g vs q) (r : BdR w b g vs w' vs') (hb : Blk w q cs t) : Blk w' q cs t := hb.fr r.fr h.not
/-- the board lies behind the law's own world -/
structure Lo (N b g : Nat) (vs : List Value) : Prop where
  b : N ≤ b
  g : N ≤ g
  v : ∀ v ∈ vs, ∀ q, v.ownBlock = some q → N ≤ q
theorem Lo.step {N b g : Nat} {vs vs' : List Value} {w w' : World} (h : Lo N b g vs) (r : BdR w b g vs w' vs') (hs : N ≤ w.heap.size) : Lo N b g vs' := ⟨h.b, h.g, (r.below h.b h.g h.v hs).2⟩
theorem Lo.below {b g : Nat} {vs vs' : List Value} {W w w' : World} (h : Lo W.heap.size b g vs) (r : BdR w b g vs w' vs') (hb : Below W.heap.size W w) : Below W.heap.size W w' := hb.trans (r.below h.b h.g h.v hb.size).1
theorem BoardAt.fr {w w' : World} {b g : Nat} {vs : List Value} {S : At.Bd} {P : Nat → Prop} (h : BoardAt w b g vs S) (hf : Fr w w' P) (hn : ∀ q, BdS b g vs q → ¬ P q) : BoardAt w' b g vs S :=
  ⟨h.len, h.blk.fr hf (hn b (.inl rfl)), h.tsk.fr hf (hn g (.inr (.inl rfl))), fun i v t hv ht => own_fr (h.own i v t hv ht) hf fun q hq => hn q (.inr (.inr ⟨v, List.mem_of_getElem? hv, hq⟩)), h.ne, h.off, h.apart⟩
theorem BoardAt.frNone {w w' : World} {b g : Nat} {vs : List Value} {S : At.Bd} (h : BoardAt w b g vs S) (hf : Fr w w' (fun _ => False)) : BoardAt w' b g vs S := h.fr hf fun _ _ e => e
theorem ready_any (b g : Nat) (vs : List Value) (S : At.Bd) (N : Nat) (hS : BOk S N) (hN : N ≤ 5000000000001) (node now : Int) (w : World) (h : BoardAt w b g vs S) : Calls Try.prog 6 #[.pointer (some ⟨b, 0, none⟩), .int .i64 node, .int .i64 now] w (IntsNew w (At.ready S node now)) := by
  cases hd : S.dead with
  | true =>
    have hr : At.ready S node now = [] := by unfold At.ready; rw [hd]; rfl
    rw [hr]
    exact ready_dead b g vs S hd node now w h
  | false => exact ready_c b g vs S hd (hS.use hN).wf node now w h
theorem ready_mem {S : At.Bd} {node now x : Int} (h : x ∈ At.ready S node now) : ∃ (k : Nat) (t : At.Task), x = (k : Int) ∧ S.tasks[k]? = some t ∧ At.may S k t = true := by
  have hk : ∃ k : Nat, x = (k : Int) ∧ (At.isIdle S k = true ∨ At.isSlow S node now k = true) := by
    unfold At.ready at h
    split at h
    · cases h
    · split at h
      · unfold At.idle at h
        obtain ⟨k, hk, rfl⟩ := List.mem_map.1 h
        exact ⟨k, rfl, .inl (List.mem_filter.1 hk).2⟩
      · unfold At.slow at h
        obtain ⟨k, hk, rfl⟩ := List.mem_map.1 h
        exact ⟨k, rfl, .inr (List.mem_filter.1 hk).2⟩
  obtain ⟨k, rfl, hk⟩ := hk
  unfold At.isIdle At.isSlow at hk
  cases ht : S.tasks[k]? with
  | none => simp [ht] at hk
  | some t =>
    refine ⟨k, t, rfl, ht, ?_⟩
    rw [ht] at hk
    cases hm : At.may S k t with
    | true => rfl
    | false => simp [hm] at hk
theorem may_iff {S : At.Bd} {k : Nat} {t : At.Task} : At.may S k t = true ↔ t.winner = 0 ∧ (k < S.maps ∨ S.opn = 0) := by
  unfold At.may
  rw [Bool.and_eq_true, Bool.or_eq_true]
  simp
theorem winner_at {S : At.Bd} {N : Nat} (h : BOk S N) {i : Nat} {k : At.Task} (hk : S.tasks[i]? = some k) : ∃ nd, At.winner S (i : Int) = (nd, k.winner, decide (k.winner ≠ 0)) := by
  unfold At.winner
  rw [if_pos (by omega), Int.toNat_natCast, hk]
  dsimp only
  by_cases h0 : k.winner = 0
  · rw [if_pos h0, h0]
    exact ⟨0, rfl⟩
  · obtain ⟨a, ha, _⟩ := (h.tk k (List.mem_of_getElem? hk)).good h0
    rw [if_neg h0, ha, decide_eq_true h0]
    exact ⟨a.node, rfl⟩
theorem winner_out {S : At.Bd} {t : Int} (h : ¬ (0 ≤ t ∧ t < (S.tasks.length : Int))) : At.winner S t = (0, 0, false) := by
  unfold At.winner
  by_cases h0 : 0 ≤ t
  · rw [if_pos h0, List.getElem?_eq_none (by omega)]
  · rw [if_neg h0]
/-- what a call leaves of the board's form -/
structure Same (S S' : At.Bd) : Prop where
  maps : S'.maps = S.maps
  len : S'.tasks.length = S.tasks.length
theorem Same.rfl' (S : At.Bd) : Same S S := ⟨rfl, rfl⟩
theorem start_same (S : At.Bd) (t node now : Int) : Same S (At.start S t node now).2 := by
  unfold At.start
  repeat' split
  all_goals first | exact Same.rfl' S | exact ⟨rfl, by simp⟩
theorem report_same (S : At.Bd) (t n how : Int) : Same S (At.report S t n how).2 := by
  unfold At.report At.rep
  repeat' split
  all_goals first | exact Same.rfl' S | exact ⟨rfl, by simp⟩
theorem lost_same (S : At.Bd) (t n : Int) : Same S (At.lost S t n).2 := by
  unfold At.lost At.lose
  repeat' split
  all_goals first | exact Same.rfl' S | exact ⟨rfl, by simp⟩
theorem gone_same (S : At.Bd) (node : Int) : Same S (At.gone S node) := ⟨rfl, by simp [At.gone]⟩
/-- the winners -/
def wins (S : At.Bd) : List Int := S.tasks.map (·.winner)
theorem wins_set (S : At.Bd) (i : Nat) (k : At.Task) (o : Int) (d : Bool) : wins { S with tasks := S.tasks.set i k, opn := o, dead := d } = (wins S).set i k.winner := by unfold wins; rw [List.map_set]
theorem wins_same {S : At.Bd} {i : Nat} {k k' : At.Task} (hk : S.tasks[i]? = some k) (hw : k'.winner = k.winner) (o : Int) (d : Bool) : wins { S with tasks := S.tasks.set i k', opn := o, dead := d } = wins S := by
  rw [wins_set, hw]
  apply List.ext_getElem?
  intro q
  rw [List.getElem?_set]
  split
  · rename_i e
    subst e
    have hi := (List.getElem?_eq_some_iff.1 hk).1
    rw [if_pos (by unfold wins; rw [List.length_map]; exact hi)]
    unfold wins
    rw [List.getElem?_map, hk]
    rfl
  · rfl
theorem start_wins (S : At.Bd) (t node now : Int) : wins (At.start S t node now).2 = wins S := by
  unfold At.start
  split
  · split
    · rename_i k hk
      split
      · exact wins_same (k' := { k with tries := k.tries ++ [⟨node, At.clamp now 0 1099511627776, 0⟩] }) hk rfl S.opn S.dead
      · rfl
    · rfl
  · rfl
theorem gone_wins (S : At.Bd) (node : Int) : wins (At.gone S node) = wins S := by
  unfold wins At.gone
  rw [List.map_map]
  rfl
/-- a report keeps every winner there is -/
theorem report_wins (S : At.Bd) (t n how : Int) {q : Nat} {x : Int} (hx : (wins S)[q]? = some x) (h0 : x ≠ 0) : (wins (At.report S t n how).2)[q]? = some x := by
  unfold At.report
  split
  · split
    · rename_i k hk
      split
      · split
        · rename_i a ha
          split
          · show (wins (At.rep S t.toNat k (n - 1).toNat a n how))[q]? = some x
            unfold At.rep
            split
            · rw [show wins _ = wins S from wins_same (k' := { k with tries := k.tries.set (n - 1).toNat { a with state := how }, full := k.full + 1 }) hk rfl S.opn _]
              exact hx
            · split
              · rename_i hw
                rw [show wins _ = (wins S).set t.toNat n from wins_set S t.toNat { k with tries := k.tries.set (n - 1).toNat { a with state := how }, winner := n } _ S.dead]
                rw [List.getElem?_set_ne]
                · exact hx
                · intro e
                  subst e
                  unfold wins at hx
                  rw [List.getElem?_map, hk] at hx
                  exact h0 ((Option.some.inj hx).symm.trans hw.2)
              · rw [show wins _ = wins S from wins_same (k' := { k with tries := k.tries.set (n - 1).toNat { a with state := how } }) hk rfl S.opn S.dead]
                exact hx
          · exact hx
        · exact hx
      · exact hx
    · exact hx
  · exact hx
/-- what Lost takes away -/
theorem lost_wins (S : At.Bd) (t n : Int) : ((At.lost S t n) = (false, S)) ∨ (∃ i : Nat, t = (i : Int) ∧ i < S.maps ∧ (At.lost S t n).1 = true ∧ (wins S)[i]? = some n ∧ wins (At.lost S t n).2 = (wins S).set i 0) := by
  unfold At.lost
  split
  · rename_i h0
    split
    · rename_i k hk
      split
      · rename_i hc
        split
        · rename_i a ha
          refine .inr ⟨t.toNat, by omega, hc.1, rfl, ?_, wins_set S t.toNat { k with tries := k.tries.set (n - 1).toNat { a with state := 4 }, winner := 0 } _ S.dead⟩
          unfold wins
          rw [List.getElem?_map, hk]
          show some k.winner = some n
          rw [hc.2.2]
        · exact .inl rfl
      · exact .inl rfl
    · exact .inl rfl
  · exact .inl rfl
/-- no map is open where all maps are won -/
theorem BOk.open0 {S : At.Bd} {N : Nat} (h : BOk S N) (h0 : S.opn = 0) : ∀ (i : Nat) (k : At.Task), i < S.maps → S.tasks[i]? = some k → k.winner ≠ 0 := by
  intro i k hi hk hw
  have h1 := h.opn
  rw [h0] at h1
  have h2 : (S.tasks.take S.maps).countP isOpen = 0 := by omega
  rw [List.countP_eq_zero] at h2
  refine h2 k (List.mem_of_getElem? (i := i) (by rw [List.getElem?_take, if_pos hi]; exact hk)) (decide_eq_true hw)
end Go.Proofs.Ytahpbcacfdkdjaa
