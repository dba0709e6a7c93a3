/- attempts: what a board in use keeps: plain. -/
import Derived.Test.YtahpbcacfdkdjaaBoard13
namespace Go.Proofs.Ytahpbcacfdkdjaa
open Go.RowKit
set_option linter.unusedVariables false
set_option linter.unusedSimpArgs false
def isFull (a : At.Try) : Bool := decide (a.state = 3)
def isOpen (k : At.Task) : Bool := decide (k.winner = 0)
structure TaskOk (N : Nat) (k : At.Task) : Prop where
  len : k.tries.length ≤ N
  beg : ∀ a ∈ k.tries, 0 ≤ a.begun ∧ a.begun ≤ 1099511627776
  win : 0 ≤ k.winner ∧ k.winner ≤ k.tries.length
  good : k.winner ≠ 0 → ∃ a, k.tries[(k.winner - 1).toNat]? = some a ∧ a.state = 1
  full : k.full = (k.tries.countP isFull : Nat)
theorem TaskOk.mono {N M : Nat} {k : At.Task} (h : TaskOk N k) (hm : N ≤ M) : TaskOk M k := ⟨Nat.le_trans h.len hm, h.beg, h.win, h.good, h.full⟩
structure BOk (S : At.Bd) (N : Nat) : Prop where
  len : S.tasks.length ≤ 100000
  maps : S.maps ≤ S.tasks.length
  p1 : 1 ≤ S.patience
  p2 : S.patience ≤ 1099511627776
  tk : ∀ k ∈ S.tasks, TaskOk N k
  opn : S.opn = ((S.tasks.take S.maps).countP isOpen : Nat)
  dead : S.dead = true ↔ ∃ (q : Nat) (k : At.Task), S.tasks[q]? = some k ∧ S.limit ≤ k.full
theorem BOk.use {S : At.Bd} {N : Nat} (h : BOk S N) (hN : N ≤ 5000000000001) : At.Use S N :=
  ⟨⟨h.len, h.p1, h.p2, fun k hk => ⟨by have := (h.tk k hk).len; omega, (h.tk k hk).beg⟩⟩, fun k hk => (h.tk k hk).len, fun k hk => by
    rw [(h.tk k hk).full]
    have := List.countP_le_length (p := isFull) (l := k.tries)
    omega, by
    rw [h.opn]
    have h1 := List.countP_le_length (p := isOpen) (l := S.tasks.take S.maps)
    have := h.len
    rw [List.length_take] at h1
    omega⟩
theorem BOk.win {S : At.Bd} {N : Nat} (h : BOk S N) : ∀ k ∈ S.tasks, 0 ≤ k.winner ∧ k.winner ≤ k.tries.length := fun k hk => (h.tk k hk).win
theorem new_ok (maps reduces limit patience : Int) (N : Nat) : BOk (At.new maps reduces limit patience) N := by
  have h1 : ∀ x, 0 ≤ At.clamp x 0 4096 ∧ At.clamp x 0 4096 ≤ 4096 := fun x => by unfold At.clamp; omega
  have a1 := h1 maps
  have a2 := h1 reduces
  unfold At.new
  generalize At.clamp maps 0 4096 = m at a1
  generalize At.clamp reduces 0 4096 = r at a2
  have hl1 : 1 ≤ max limit 1 := by omega
  refine ⟨by simp; omega, by simp, by show 1 ≤ At.clamp patience 1 1099511627776; unfold At.clamp; omega, by show At.clamp patience 1 1099511627776 ≤ _; unfold At.clamp; omega, fun k hk => ?_, ?_, ?_⟩
  · obtain rfl := (List.mem_replicate.1 hk).2
    exact ⟨Nat.zero_le _, (fun a ha => by cases ha), ⟨Int.le_refl _, Int.le_refl _⟩, fun e => absurd rfl e, rfl⟩
  · show m = _
    rw [show (List.replicate (m.toNat + r.toNat) At.empty).take m.toNat = List.replicate m.toNat At.empty by rw [List.take_replicate]; congr 1; omega, List.countP_replicate]
    rw [if_pos (by rfl)]
    omega
  · constructor
    · intro e; cases e
    · rintro ⟨q, k, hk, hl⟩
      obtain rfl := (List.mem_replicate.1 (List.mem_of_getElem? hk)).2
      have : max limit 1 ≤ 0 := hl
      omega
/-- one task becomes another -/
theorem BOk.set {S : At.Bd} {N M : Nat} (h : BOk S N) (hm : N ≤ M) {i : Nat} {k k' : At.Task} (hk : S.tasks[i]? = some k) (hk' : TaskOk M k') (hf : k.full ≤ k'.full) {o' : Int} {d' : Bool}
    (ho : o' = S.opn + (if i < S.maps then (if isOpen k' = true then 1 else 0) - (if isOpen k = true then 1 else 0) else 0)) (hd : d' = (S.dead || decide (S.limit ≤ k'.full))) :
    BOk { S with tasks := S.tasks.set i k', opn := o', dead := d' } M := by
  have hi := (List.getElem?_eq_some_iff.1 hk).1
  refine ⟨by simpa using h.len, by simpa using h.maps, h.p1, h.p2, fun x hx => ?_, ?_, ?_⟩
  · rcases List.mem_or_eq_of_mem_set hx with hx | rfl
    · exact (h.tk x hx).mono hm
    · exact hk'
  · show o' = _
    rw [ho, h.opn, List.take_set]
    by_cases him : i < S.maps
    · rw [if_pos him]
      have hkt : (S.tasks.take S.maps)[i]? = some k := by rw [List.getElem?_take, if_pos him]; exact hk
      obtain ⟨hl, he⟩ := List.getElem?_eq_some_iff.1 hkt
      rw [List.countP_set hl, he]
      have : (if isOpen k = true then 1 else 0) ≤ (S.tasks.take S.maps).countP isOpen := by
        split
        · rename_i ho
          exact List.countP_pos_iff.2 ⟨k, List.mem_of_getElem? hkt, ho⟩
        · exact Nat.zero_le _
      clear he hkt ho hd hf
      generalize (S.tasks.take S.maps).countP isOpen = C at this ⊢
      revert this
      cases isOpen k' <;> cases isOpen k <;> intro this <;> simp at this ⊢ <;> omega
    · have hl : (S.tasks.take S.maps).length ≤ i := by rw [List.length_take]; omega
      rw [if_neg him, List.set_eq_of_length_le hl]
      simp
  · show d' = true ↔ _
    rw [hd, Bool.or_eq_true, h.dead, decide_eq_true_eq]
    constructor
    · rintro (⟨q, x, hx, hl⟩ | hl)
      · by_cases e : i = q
        · subst e
          obtain rfl := Option.some.inj (hk.symm.trans hx)
          exact ⟨i, k', List.getElem?_set_self hi, Int.le_trans hl hf⟩
        · exact ⟨q, x, by show (S.tasks.set i k')[q]? = _; rw [List.getElem?_set_ne e]; exact hx, hl⟩
      · exact ⟨i, k', List.getElem?_set_self hi, hl⟩
    · rintro ⟨q, x, hx, hl⟩
      have hx : (S.tasks.set i k')[q]? = some x := hx
      by_cases e : i = q
      · subst e
        rw [List.getElem?_set_self hi] at hx
        cases hx
        exact .inr hl
      · rw [List.getElem?_set_ne e] at hx
        exact .inl ⟨q, x, hx, hl⟩
theorem start_bok {S : At.Bd} {N : Nat} (h : BOk S N) (t node now : Int) : BOk (At.start S t node now).2 (N + 1) := by
  have h0 : BOk S (N + 1) := ⟨h.len, h.maps, h.p1, h.p2, fun k hk => (h.tk k hk).mono (by omega), h.opn, h.dead⟩
  unfold At.start
  split
  · split
    · rename_i k hk
      split
      · rename_i hc
        have hkk := h.tk k (List.mem_of_getElem? hk)
        have e := h.set (k' := { k with tries := k.tries ++ [⟨node, At.clamp now 0 1099511627776, 0⟩] }) (Nat.le_succ N) hk ⟨by simpa using hkk.len, fun a ha => by
            rcases List.mem_append.1 ha with ha | ha
            · exact hkk.beg a ha
            · obtain rfl : a = ⟨node, At.clamp now 0 1099511627776, 0⟩ := by simpa using ha
              show 0 ≤ At.clamp now 0 1099511627776 ∧ At.clamp now 0 1099511627776 ≤ 1099511627776
              unfold At.clamp; omega, by have := hkk.win; simp; omega, fun hw => by
            obtain ⟨a, ha, hs⟩ := hkk.good hw
            exact ⟨a, by rw [List.getElem?_append_left (List.getElem?_eq_some_iff.1 ha).1]; exact ha, hs⟩, by
            rw [List.countP_append]
            simpa [isFull] using hkk.full⟩ (Int.le_refl _) (o' := S.opn) (d' := S.dead) (by
            show S.opn = S.opn + (if t.toNat < S.maps then (if isOpen k = true then 1 else 0) - (if isOpen k = true then 1 else 0) else 0)
            split <;> simp) (by
            show S.dead = (S.dead || decide (S.limit ≤ k.full))
            cases hd : S.dead with
            | true => rfl
            | false =>
              have : ¬ S.limit ≤ k.full := fun hl => by
                have := h.dead.2 ⟨_, k, hk, hl⟩
                rw [hd] at this; cases this
              rw [decide_eq_false this]; rfl)
        exact e
      · exact h0
    · exact h0
  · exact h0
theorem count_set3 {l : List At.Try} {j : Nat} {a : At.Try} (ha : l[j]? = some a) (hs : a.state ≠ 3) (x : Int) : (l.set j { a with state := x }).countP isFull = l.countP isFull + if x = 3 then 1 else 0 := by
  obtain ⟨hj, he⟩ := List.getElem?_eq_some_iff.1 ha
  rw [List.countP_set hj, he]
  have h1 : isFull a = false := decide_eq_false hs
  have h2 : isFull { a with state := x } = decide (x = 3) := rfl
  rw [h1, h2]
  by_cases hx : x = 3 <;> simp [hx]
/-- the state of a try that is no winner's changes -/
theorem TaskOk.setTry {N : Nat} {k : At.Task} (h : TaskOk N k) {j : Nat} {a : At.Try} (ha : k.tries[j]? = some a) (hs : a.state = 0) (x : Int) (hx : x ≠ 3) : TaskOk N { k with tries := k.tries.set j { a with state := x } } := by
  refine ⟨by simpa using h.len, fun y hy => ?_, by simpa using h.win, fun hw => ?_, ?_⟩
  · rcases List.mem_or_eq_of_mem_set hy with hy | rfl
    · exact h.beg y hy
    · exact h.beg a (List.mem_of_getElem? ha)
  · obtain ⟨y, hy, hys⟩ := h.good hw
    refine ⟨y, ?_, hys⟩
    show (k.tries.set j _)[_]? = _
    rw [List.getElem?_set_ne]
    · exact hy
    · intro e
      show False
      have e : j = (k.winner - 1).toNat := e
      rw [← e, ha] at hy
      cases hy
      omega
  · show k.full = ((k.tries.set j { a with state := x }).countP isFull : Nat)
    rw [count_set3 ha (by omega), if_neg hx]
    exact h.full
theorem report_bok {S : At.Bd} {N : Nat} (h : BOk S N) (t n how : Int) : BOk (At.report S t n how).2 N := by
  unfold At.report
  split
  · split
    · rename_i k hk
      split
      · rename_i hc
        split
        · rename_i a ha
          split
          · rename_i hs
            have hkm := List.mem_of_getElem? hk
            have hkk := h.tk k hkm
            have hlive : ∀ f, f = k.full → S.dead = (S.dead || decide (S.limit ≤ f)) := by
              rintro f rfl
              cases hd : S.dead with
              | true => rfl
              | false =>
                have : ¬ S.limit ≤ k.full := fun hl => by
                  have := h.dead.2 ⟨_, k, hk, hl⟩
                  rw [hd] at this; cases this
                rw [decide_eq_false this]; rfl
            show BOk (At.rep S t.toNat k (n - 1).toNat a n how) N
            unfold At.rep
            split
            · rename_i h3
              refine h.set (k' := { k with tries := k.tries.set (n - 1).toNat { a with state := how }, full := k.full + 1 }) (Nat.le_refl N) hk ?_ (by show k.full ≤ k.full + 1; omega) (by
                show S.opn = S.opn + (if t.toNat < S.maps then (if isOpen k = true then 1 else 0) - (if isOpen k = true then 1 else 0) else 0)
                split <;> simp) rfl
              refine ⟨by simpa using hkk.len, fun y hy => ?_, by simpa using hkk.win, fun hw => ?_, ?_⟩
              · rcases List.mem_or_eq_of_mem_set hy with hy | rfl
                · exact hkk.beg y hy
                · exact hkk.beg a (List.mem_of_getElem? ha)
              · obtain ⟨y, hy, hys⟩ := hkk.good hw
                refine ⟨y, ?_, hys⟩
                show (k.tries.set (n - 1).toNat _)[_]? = _
                rw [List.getElem?_set_ne]
                · exact hy
                · intro e
                  have e : (n - 1).toNat = (k.winner - 1).toNat := e
                  rw [← e, ha] at hy
                  cases hy
                  omega
              · show k.full + 1 = ((k.tries.set (n - 1).toNat { a with state := how }).countP isFull : Nat)
                rw [count_set3 ha (by omega), if_pos h3, hkk.full]
                rfl
            · rename_i h3
              have hT := hkk.setTry ha hs how h3
              split
              · rename_i hw
                obtain ⟨hw1, hw2⟩ := hw
                refine h.set (k' := { k with tries := k.tries.set (n - 1).toNat { a with state := how }, winner := n }) (Nat.le_refl N) hk ?_ (Int.le_refl _) ?_ (hlive _ rfl)
                · have hal := (List.getElem?_eq_some_iff.1 ha).1
                  refine ⟨hT.len, hT.beg, ?_, fun _ => ⟨{ a with state := how }, List.getElem?_set_self hal, hw1⟩, hT.full⟩
                  show 0 ≤ n ∧ n ≤ ((k.tries.set (n - 1).toNat { a with state := how }).length : Nat)
                  rw [List.length_set]
                  omega
                · have o1 : isOpen k = true := decide_eq_true hw2
                  have o2 : isOpen { k with tries := k.tries.set (n - 1).toNat { a with state := how }, winner := n } = false := decide_eq_false (by show ¬ n = 0; omega)
                  rw [o1, o2]
                  split <;> simp <;> omega
              · exact h.set (k' := { k with tries := k.tries.set (n - 1).toNat { a with state := how } }) (Nat.le_refl N) hk hT (Int.le_refl _) (by
                  show S.opn = S.opn + (if t.toNat < S.maps then (if isOpen k = true then 1 else 0) - (if isOpen k = true then 1 else 0) else 0)
                  split <;> simp) (hlive _ rfl)
          · exact h
        · exact h
      · exact h
    · exact h
  · exact h
theorem lost_bok {S : At.Bd} {N : Nat} (h : BOk S N) (t n : Int) : BOk (At.lost S t n).2 N := by
  unfold At.lost
  split
  · split
    · rename_i k hk
      split
      · rename_i hc
        obtain ⟨c1, c2, c3⟩ := hc
        split
        · rename_i a ha
          have hkm := List.mem_of_getElem? hk
          have hkk := h.tk k hkm
          have hst : a.state = 1 := by
            obtain ⟨y, hy, hys⟩ := hkk.good (by omega)
            rw [c3, ha] at hy
            cases hy
            exact hys
          have hlive : S.dead = (S.dead || decide (S.limit ≤ k.full)) := by
            cases hd : S.dead with
            | true => rfl
            | false =>
              have : ¬ S.limit ≤ k.full := fun hl => by
                have := h.dead.2 ⟨_, k, hk, hl⟩
                rw [hd] at this; cases this
              rw [decide_eq_false this]; rfl
          refine h.set (k' := { k with tries := k.tries.set (n - 1).toNat { a with state := 4 }, winner := 0 }) (Nat.le_refl N) hk ?_ (Int.le_refl _) ?_ hlive
          · refine ⟨by simpa using hkk.len, fun y hy => ?_, ⟨Int.le_refl _, by show (0 : Int) ≤ _; omega⟩, fun hw => absurd rfl hw, ?_⟩
            · rcases List.mem_or_eq_of_mem_set hy with hy | rfl
              · exact hkk.beg y hy
              · exact hkk.beg a (List.mem_of_getElem? ha)
            · show k.full = ((k.tries.set (n - 1).toNat { a with state := 4 }).countP isFull : Nat)
              rw [count_set3 ha (by omega), if_neg (by decide)]
              exact hkk.full
          · have o1 : isOpen k = false := decide_eq_false (by omega)
            have o2 : isOpen { k with tries := k.tries.set (n - 1).toNat { a with state := 4 }, winner := 0 } = true := rfl
            rw [o1, o2, if_pos c1]
            simp
        · exact h
      · exact h
    · exact h
  · exact h
theorem goA_full (node : Int) (a : At.Try) : isFull (At.goA node a) = isFull a := by
  unfold At.goA isFull
  split
  · rename_i h
    rw [h.2]; rfl
  · rfl
theorem goK_ok {N : Nat} {k : At.Task} (h : TaskOk N k) (node : Int) : TaskOk N (At.goK node k) := by
  refine ⟨by simpa [At.goK] using h.len, fun y hy => ?_, by simpa [At.goK] using h.win, fun hw => ?_, ?_⟩
  · obtain ⟨a, ha, rfl⟩ := List.mem_map.1 hy
    have : (At.goA node a).begun = a.begun := by unfold At.goA; split <;> rfl
    rw [this]
    exact h.beg a ha
  · obtain ⟨a, ha, hs⟩ := h.good hw
    refine ⟨a, ?_, hs⟩
    show (k.tries.map (At.goA node))[_]? = _
    rw [List.getElem?_map]
    have : k.tries[(k.winner - 1).toNat]? = some a := ha
    show Option.map _ k.tries[(k.winner - 1).toNat]? = _
    rw [this]
    show some (At.goA node a) = some a
    unfold At.goA
    rw [if_neg (by omega)]
  · show k.full = ((k.tries.map (At.goA node)).countP isFull : Nat)
    rw [List.countP_map]
    have : (isFull ∘ At.goA node) = isFull := funext fun a => goA_full node a
    rw [this]
    exact h.full
theorem gone_bok {S : At.Bd} {N : Nat} (h : BOk S N) (node : Int) : BOk (At.gone S node) N := by
  refine ⟨by simpa [At.gone] using h.len, by simpa [At.gone] using h.maps, h.p1, h.p2, fun x hx => ?_, ?_, ?_⟩
  · obtain ⟨k, hk, rfl⟩ := List.mem_map.1 hx
    exact goK_ok (h.tk k hk) node
  · show S.opn = (((S.tasks.map (At.goK node)).take S.maps).countP isOpen : Nat)
    rw [← List.map_take, List.countP_map]
    exact h.opn
  · show S.dead = true ↔ _
    rw [h.dead]
    constructor
    · rintro ⟨q, k, hk, hl⟩
      exact ⟨q, At.goK node k, by show (S.tasks.map _)[q]? = _; rw [List.getElem?_map, hk]; rfl, hl⟩
    · rintro ⟨q, x, hx, hl⟩
      have hx : (S.tasks.map (At.goK node))[q]? = some x := hx
      rw [List.getElem?_map] at hx
      cases hk : S.tasks[q]? with
      | none => rw [hk] at hx; cases hx
      | some k =>
        rw [hk] at hx
        cases hx
        exact ⟨q, k, hk, hl⟩
end Go.Proofs.Ytahpbcacfdkdjaa
