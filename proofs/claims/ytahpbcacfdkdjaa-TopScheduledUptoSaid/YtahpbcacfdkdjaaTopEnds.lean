/- attempts: whoever does what is ready comes to the end, at any node: plain. -/
import Derived.Test.YtahpbcacfdkdjaaBoardLaw
namespace Go.Proofs.Ytahpbcacfdkdjaa
open Go.RowKit
set_option linter.unusedVariables false
set_option linter.unusedSimpArgs false
/-- nothing runs, nothing was full -/
def Quiet (S : At.Bd) : Prop := ∀ k ∈ S.tasks, ∀ a ∈ k.tries, a.state ≠ 0 ∧ a.state ≠ 3
def wonN (S : At.Bd) : Nat := (wins S).countP fun x => decide (x ≠ 0)
structure En (S : At.Bd) (i m r wn : Nat) : Prop where
  ok : BOk S i
  maps : S.maps = m
  len : S.tasks.length = m + r
  lim : S.limit = 1
  quiet : Quiet S
  won : wonN S = wn
theorem En.new (m r : Nat) (hm : m ≤ 50) (hr : r ≤ 50) : En (At.new (m : Int) (r : Int) 1 3) 0 m r 0 := by
  have h1 : At.clamp (m : Int) 0 4096 = m := by unfold At.clamp; omega
  have h2 : At.clamp (r : Int) 0 4096 = r := by unfold At.clamp; omega
  refine ⟨new_ok _ _ _ _ _, ?_, ?_, rfl, fun k hk => ?_, ?_⟩
  · unfold At.new; rw [h1]; rfl
  · unfold At.new; rw [h1, h2]; simp
  · obtain rfl := (List.mem_replicate.1 hk).2
    intro a ha
    cases ha
  · unfold wonN wins At.new
    rw [List.map_replicate, List.countP_replicate]
    rfl
theorem En.dead {S : At.Bd} {i m r wn : Nat} (h : En S i m r wn) : S.dead = false := by
  cases hd : S.dead with
  | false => rfl
  | true =>
    obtain ⟨q, k, hk, hl⟩ := h.ok.dead.1 hd
    have hkm := List.mem_of_getElem? hk
    have hf := (h.ok.tk k hkm).full
    have h0 : k.tries.countP isFull = 0 := by
      rw [List.countP_eq_zero]
      intro a ha
      have := (h.quiet k hkm a ha).2
      unfold isFull
      simpa using this
    rw [h0] at hf
    rw [h.lim] at hl
    omega
theorem quiet_report {S : At.Bd} (h : Quiet S) (t n how : Int) : At.report S t n how = (false, S) := by
  unfold At.report
  split
  · split
    · rename_i k hk
      split
      · split
        · rename_i a ha
          rw [if_neg]
          exact (h k (List.mem_of_getElem? hk) a (List.mem_of_getElem? ha)).1
        · rfl
      · rfl
    · rfl
  · rfl
/-- what Start leaves, where it may -/
theorem start_is (nd : Int) {S : At.Bd} {i m r wn : Nat} (h : En S i m r wn) {c : Nat} {k : At.Task} (hk : S.tasks[c]? = some k) (hm : At.may S c k = true) (nw : Int) :
    At.start S (c : Int) nd nw = ((k.tries.length : Int) + 1, { S with tasks := S.tasks.set c { k with tries := k.tries ++ [(⟨nd, At.clamp nw 0 1099511627776, 0⟩ : At.Try)] } }) := by
  unfold At.start
  rw [if_pos (by omega), Int.toNat_natCast, hk]
  dsimp only
  rw [if_pos ⟨h.dead, hm⟩]
theorem report_is (nd : Int) {S : At.Bd} {c : Nat} {k : At.Task} (hk : S.tasks[c]? = some k) (nw : Int) (how : Int) (hh : 1 ≤ how ∧ how ≤ 3) :
    At.report { S with tasks := S.tasks.set c { k with tries := k.tries ++ [(⟨nd, nw, 0⟩ : At.Try)] } } (c : Int) ((k.tries.length : Int) + 1) how = (true, At.rep { S with tasks := S.tasks.set c { k with tries := k.tries ++ [(⟨nd, nw, 0⟩ : At.Try)] } } c { k with tries := k.tries ++ [(⟨nd, nw, 0⟩ : At.Try)] } k.tries.length ⟨nd, nw, 0⟩ ((k.tries.length : Int) + 1) how) := by
  have hc := (List.getElem?_eq_some_iff.1 hk).1
  unfold At.report
  rw [if_pos (by omega), Int.toNat_natCast]
  dsimp only
  rw [List.getElem?_set_self hc]
  dsimp only
  rw [if_pos ⟨by omega, hh⟩, show ((k.tries.length : Int) + 1 - 1).toNat = k.tries.length by omega, List.getElem?_append_right (Nat.le_refl _), Nat.sub_self]
  rfl
theorem report_lim (S : At.Bd) (t n how : Int) : (At.report S t n how).2.limit = S.limit := by
  unfold At.report At.rep
  repeat' split
  all_goals rfl
theorem En.ended (nd : Int) {S : At.Bd} {i m r wn : Nat} (h : En S i m r wn) {c : Nat} {k : At.Task} (hk : S.tasks[c]? = some k) (hm : At.may S c k = true) (nw : Int) (how : Int) (hh : how = 1 ∨ how = 2) :
    (At.report (At.start S (c : Int) nd nw).2 (c : Int) ((k.tries.length : Int) + 1) how).1 = true ∧ En (At.report (At.start S (c : Int) nd nw).2 (c : Int) ((k.tries.length : Int) + 1) how).2 (i + 1) m r (if how = 1 then wn + 1 else wn) := by
  have hok := report_bok (start_bok h.ok (c : Int) nd nw) (c : Int) ((k.tries.length : Int) + 1) how
  have hsm := report_same (At.start S (c : Int) nd nw).2 (c : Int) ((k.tries.length : Int) + 1) how
  have hsm1 := start_same S (c : Int) nd nw
  have hlim := report_lim (At.start S (c : Int) nd nw).2 (c : Int) ((k.tries.length : Int) + 1) how
  have hs := start_is nd h hk hm nw
  have hc := (List.getElem?_eq_some_iff.1 hk).1
  have hw0 : k.winner = 0 := (may_iff.1 hm).1
  have hwc : (wins S)[c]? = some 0 := by unfold wins; rw [List.getElem?_map, hk, ← hw0]; rfl
  rw [hs] at hok hsm hsm1 hlim ⊢
  dsimp only at hok hsm hsm1 hlim ⊢
  have hr := report_is nd hk (At.clamp nw 0 1099511627776) how (by omega)
  rw [hr] at hok hsm hlim ⊢
  refine ⟨rfl, hok, (hsm.maps.trans hsm1.maps).trans h.maps, (hsm.len.trans hsm1.len).trans h.len, hlim.trans h.lim, ?_, ?_⟩
  · have key : ∀ (k' : At.Task), k'.tries = (k.tries ++ [(⟨nd, At.clamp nw 0 1099511627776, 0⟩ : At.Try)]).set k.tries.length (⟨nd, At.clamp nw 0 1099511627776, how⟩ : At.Try) → ∀ x ∈ (S.tasks.set c { k with tries := k.tries ++ [(⟨nd, At.clamp nw 0 1099511627776, 0⟩ : At.Try)] }).set c k', ∀ a ∈ x.tries, a.state ≠ 0 ∧ a.state ≠ 3 := by
      intro k' hk' x hx a ha
      rw [List.set_set] at hx
      rcases List.mem_or_eq_of_mem_set hx with hx | rfl
      · exact h.quiet x hx a ha
      · rw [hk', List.set_append_right _ _ (Nat.le_refl _), Nat.sub_self] at ha
        rcases List.mem_append.1 ha with ha | ha
        · exact h.quiet k (List.mem_of_getElem? hk) a ha
        · obtain rfl : a = ⟨nd, At.clamp nw 0 1099511627776, how⟩ := by simpa using ha
          show how ≠ 0 ∧ how ≠ 3
          omega
    show Quiet (At.rep _ _ _ _ _ _ _)
    unfold At.rep
    rw [if_neg (by omega)]
    split
    · exact key _ rfl
    · exact key _ rfl
  · show wonN (At.rep _ _ _ _ _ _ _) = _
    unfold At.rep
    rw [if_neg (by omega)]
    rcases hh with rfl | rfl
    · rw [if_pos ⟨rfl, hw0⟩, if_pos rfl]
      have : wins { S with tasks := (S.tasks.set c { k with tries := k.tries ++ [(⟨nd, At.clamp nw 0 1099511627776, 0⟩ : At.Try)] }).set c { k with tries := (k.tries ++ [(⟨nd, At.clamp nw 0 1099511627776, 0⟩ : At.Try)]).set k.tries.length (⟨nd, At.clamp nw 0 1099511627776, 1⟩ : At.Try), winner := (k.tries.length : Int) + 1 }, opn := if c < S.maps then S.opn - 1 else S.opn } = (wins S).set c ((k.tries.length : Int) + 1) := by
        rw [List.set_set]
        exact wins_set S c _ _ S.dead
      show (wins _).countP _ = _
      refine (congrArg _ this).trans ?_
      obtain ⟨hcl, he⟩ := List.getElem?_eq_some_iff.1 hwc
      rw [List.countP_set hcl, he]
      have h1 := h.won
      unfold wonN at h1
      rw [h1]
      have : decide ((k.tries.length : Int) + 1 ≠ 0) = true := decide_eq_true (by omega)
      rw [this]
      simp
    · rw [if_neg (by rintro ⟨e, _⟩; cases e), if_neg (by decide)]
      have : wins { S with tasks := (S.tasks.set c { k with tries := k.tries ++ [(⟨nd, At.clamp nw 0 1099511627776, 0⟩ : At.Try)] }).set c { k with tries := (k.tries ++ [(⟨nd, At.clamp nw 0 1099511627776, 0⟩ : At.Try)]).set k.tries.length (⟨nd, At.clamp nw 0 1099511627776, 2⟩ : At.Try) } } = wins S := by
        rw [List.set_set]
        exact wins_same (k' := { k with tries := (k.tries ++ [(⟨nd, At.clamp nw 0 1099511627776, 0⟩ : At.Try)]).set k.tries.length (⟨nd, At.clamp nw 0 1099511627776, 2⟩ : At.Try) }) hk rfl S.opn S.dead
      show (wins _).countP _ = _
      refine (congrArg _ this).trans ?_
      exact h.won
/-- nothing is ready: all are won -/
theorem En.none {S : At.Bd} {i m r wn : Nat} (h : En S i m r wn) {node now : Int} (hr : At.ready S node now = []) : ∀ k ∈ S.tasks, k.winner ≠ 0 := by
  have hid : ∀ (c : Nat) (k : At.Task), S.tasks[c]? = some k → At.may S c k = false := by
    intro c k hk
    cases hm : At.may S c k with
    | false => rfl
    | true =>
      exfalso
      have hu : (At.under k.tries).1 = 0 := by
        have : ∀ (l : List At.Try), (∀ a ∈ l, a.state ≠ 0) → ∀ r, l.foldl (fun r t => if t.state = 0 then (r.1 + 1, t) else r) r = r := by
          intro l
          induction l with
          | nil => intro _ r; rfl
          | cons a l ih =>
            intro hl r
            rw [List.foldl_cons, if_neg (hl a (by simp))]
            exact ih (fun b hb => hl b (by simp [hb])) r
        unfold At.under
        rw [this k.tries (fun a ha => (h.quiet k (List.mem_of_getElem? hk) a ha).1)]
      have hi : At.isIdle S c = true := by unfold At.isIdle; rw [hk, ]; simp [hm, hu]
      have hmem : (c : Int) ∈ At.idle S S.tasks.length := by
        unfold At.idle
        exact List.mem_map.2 ⟨c, List.mem_filter.2 ⟨List.mem_range.2 (List.getElem?_eq_some_iff.1 hk).1, hi⟩, rfl⟩
      unfold At.ready at hr
      rw [h.dead, if_neg (by decide), if_pos (List.length_pos_of_mem hmem)] at hr
      rw [hr] at hmem
      cases hmem
  have hmaps : ∀ (c : Nat) (k : At.Task), c < S.maps → S.tasks[c]? = some k → k.winner ≠ 0 := fun c k hc hk hw => by
    have := hid c k hk
    rw [may_iff.2 ⟨hw, .inl hc⟩] at this
    cases this
  have hopn : S.opn = 0 := by
    rw [h.ok.opn]
    have : (S.tasks.take S.maps).countP isOpen = 0 := by
      rw [List.countP_eq_zero]
      intro k hk
      obtain ⟨c, hc⟩ := List.mem_iff_getElem?.1 hk
      rw [List.getElem?_take] at hc
      split at hc
      · rename_i hlt
        have := hmaps c k hlt hc
        unfold isOpen
        simpa using this
      · cases hc
    rw [this]; rfl
  intro k hk hw
  obtain ⟨c, hc⟩ := List.mem_iff_getElem?.1 hk
  have := hid c k hc
  rw [may_iff.2 ⟨hw, .inr hopn⟩] at this
  cases this
theorem wonN_le (S : At.Bd) : wonN S ≤ S.tasks.length := by
  unfold wonN
  have := List.countP_le_length (p := fun x => decide (x ≠ 0)) (l := wins S)
  unfold wins at this ⊢
  rw [List.length_map] at this
  exact this
theorem won_all {S : At.Bd} : wonN S = S.tasks.length ↔ ∀ k ∈ S.tasks, k.winner ≠ 0 := by
  unfold wonN
  have hl : S.tasks.length = (wins S).length := by unfold wins; rw [List.length_map]
  rw [hl, List.countP_eq_length]
  unfold wins
  constructor
  · intro h k hk
    have := h k.winner (List.mem_map.2 ⟨k, hk, rfl⟩)
    simpa using this
  · intro h x hx
    obtain ⟨k, hk, rfl⟩ := List.mem_map.1 hx
    simpa using h k hk
end Go.Proofs.Ytahpbcacfdkdjaa
