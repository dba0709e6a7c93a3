/- leases: the table and the reference's say the same: plain. -/
import Derived.Test.YtngpmlolpigeoaaLeaseRef3
namespace Go.Proofs.Ytngpmlolpigeoaa
open Go.RowKit Go.Maps
set_option linter.unusedVariables false
set_option linter.unusedSimpArgs false
structure LRel (T : Le.Tab) (l : List LR) : Prop where
  rises : l.Pairwise (fun a b => toB a.1 < toB b.1)
  mem : ∀ x c h, T.g x = some (c, h) ↔ (x, c, h) ∈ l
theorem LRel.new (len : Int) : LRel ⟨len, fun _ => none⟩ [] := ⟨List.Pairwise.nil, fun x c h => ⟨(fun e => by cases e), (fun e => by cases e)⟩⟩
theorem lrNot_iff (p : ByteArray) (e : LR) : lrNot p e = true ↔ e.1 ≠ p := by
  unfold lrNot
  rw [bne_iff_ne]
  constructor
  · intro h h2; exact h (by rw [h2])
  · intro h h2; rw [Lib.toList_data, Lib.toList_data] at h2; exact h (toB_inj h2)
theorem lrBefore_iff (p : ByteArray) (e : LR) : lrBefore p e = true ↔ toB e.1 < toB p := by
  unfold lrBefore
  rw [bytesLess_eq, Lib.toList_data, Lib.toList_data]
  exact decide_eq_true_iff
theorem LRel.drop {T : Le.Tab} {l : List LR} (h : LRel T l) (p : ByteArray) : LRel (T.drop p) (l.filter (lrNot p)) := by
  refine ⟨h.rises.filter _, fun x c hh => ?_⟩
  rw [List.mem_filter, lrNot_iff, ← h.mem]
  unfold Le.Tab.drop
  by_cases e : x = p <;> simp [e]
theorem LRel.grant {T : Le.Tab} {l : List LR} (h : LRel T l) (p : ByteArray) (c n : Int) : LRel (T.put p c n) (lrIns p c n (l.filter (lrNot p))) := by
  have hd := h.drop p
  generalize l.filter (lrNot p) = d at hd
  have hmem : ∀ e : LR, e ∈ lrIns p c n d ↔ e = (p, c, n) ∨ e ∈ d := fun e => by
    unfold lrIns
    rw [List.mem_append, List.mem_cons]
    have := List.takeWhile_append_dropWhile (p := lrBefore p) (l := d)
    constructor
    · rintro (h1 | h1 | h1)
      · exact .inr (this ▸ List.mem_append_left _ h1)
      · exact .inl h1
      · exact .inr (this ▸ List.mem_append_right _ h1)
    · rintro (h1 | h1)
      · exact .inr (.inl h1)
      · rw [← this, List.mem_append] at h1
        exact h1.elim .inl (fun h2 => .inr (.inr h2))
  have hnp : ∀ e ∈ d, e.1 ≠ p := fun e he e2 => by
    obtain ⟨x, c', h'⟩ := e
    have := (hd.mem x c' h').2 he
    have e2 : x = p := e2
    unfold Le.Tab.drop at this
    simp [e2] at this
  refine ⟨?_, fun x c' h' => ?_⟩
  · unfold lrIns
    have hs := List.takeWhile_append_dropWhile (p := lrBefore p) (l := d)
    have hr := hd.rises
    rw [← hs, List.pairwise_append] at hr
    obtain ⟨r1, r2, r3⟩ := hr
    have hdw : ∀ e ∈ d.dropWhile (lrBefore p), toB p < toB e.1 := by
      intro e he
      cases hdq : d.dropWhile (lrBefore p) with
      | nil => rw [hdq] at he; cases he
      | cons a t =>
        have ha : lrBefore p a = false := by
          have := List.head?_dropWhile_not (lrBefore p) d
          rw [hdq] at this
          simpa using this
        have had : a ∈ d := by rw [← hs, hdq]; simp
        have hpa : toB p < toB a.1 := by
          have h1 : ¬ toB a.1 < toB p := fun h2 => by rw [(lrBefore_iff p a).2 h2] at ha; cases ha
          have h2 : toB a.1 ≠ toB p := fun e2 => hnp a had (toB_inj e2)
          exact List.not_le.1 fun h3 => h2 (List.le_antisymm h3 (List.not_lt.1 h1))
        rw [hdq] at he r2
        rcases List.mem_cons.1 he with rfl | he
        · exact hpa
        · exact List.lt_trans hpa ((List.pairwise_cons.1 r2).1 e he)
    rw [List.pairwise_append]
    refine ⟨r1, List.pairwise_cons.2 ⟨fun e he => hdw e he, r2⟩, fun a ha b hb => ?_⟩
    rcases List.mem_cons.1 hb with rfl | hb
    · exact (lrBefore_iff p a).1 (List.all_eq_true.1 List.all_takeWhile a ha)
    · exact r3 a ha b hb
  · rw [hmem, ← hd.mem]
    unfold Le.Tab.put Le.Tab.drop
    by_cases e : x = p
    · simp [e, eq_comm]
    · simp [e]
theorem LRel.renew {T : Le.Tab} {l : List LR} (h : LRel T l) (c n : Int) : LRel (T.renew c n) (l.map (lrUpd c n)) := by
  have hp : ∀ e : LR, (lrUpd c n e).1 = e.1 := fun e => by unfold lrUpd; split <;> rfl
  refine ⟨?_, fun x c' h' => ?_⟩
  · rw [List.pairwise_map]
    exact h.rises.imp fun {a b} hab => by rw [hp, hp]; exact hab
  · rw [List.mem_map]
    unfold Le.Tab.renew Le.isMine
    constructor
    · intro e
      cases hg : T.g x with
      | none => simp [hg] at e
      | some q =>
        obtain ⟨c0, h0⟩ := q
        have hm := (h.mem x c0 h0).1 hg
        refine ⟨(x, c0, h0), hm, ?_⟩
        simp only [hg] at e
        unfold lrUpd
        by_cases e1 : c0 = c
        · simp [e1] at e ⊢
          obtain ⟨rfl, rfl⟩ := e
          exact ⟨rfl, rfl⟩
        · simp [e1] at e ⊢
          obtain ⟨rfl, rfl⟩ := e
          exact ⟨rfl, rfl⟩
    · rintro ⟨⟨x0, c0, h0⟩, hm, e⟩
      have hg := (h.mem x0 c0 h0).2 hm
      unfold lrUpd at e
      by_cases e1 : c0 = c
      · simp [e1] at e
        obtain ⟨rfl, rfl, rfl⟩ := e
        simp [hg, e1]
      · simp [e1] at e
        obtain ⟨rfl, rfl, rfl⟩ := e
        simp [hg, e1]
theorem sorted_unique : ∀ {a b : List (List UInt8)}, a.Pairwise (fun x y => x < y) → b.Pairwise (fun x y => x < y) → (∀ x, x ∈ a ↔ x ∈ b) → a = b
  | [], [], _, _, _ => rfl
  | [], y :: b, _, _, h => absurd ((h y).2 (by simp)) (by simp)
  | x :: a, [], _, _, h => absurd ((h x).1 (by simp)) (by simp)
  | x :: a, y :: b, ha, hb, h => by
    obtain ⟨a1, a2⟩ := List.pairwise_cons.1 ha
    obtain ⟨b1, b2⟩ := List.pairwise_cons.1 hb
    have hxy : x = y := by
      rcases List.mem_cons.1 ((h x).1 (by simp)) with e | e
      · exact e
      · rcases List.mem_cons.1 ((h y).2 (by simp)) with e2 | e2
        · exact e2.symm
        · exact absurd (List.lt_trans (b1 x e) (a1 y e2)) (List.lt_irrefl _)
    subst hxy
    congr 1
    refine sorted_unique a2 b2 fun z => ?_
    constructor
    · intro hz
      rcases List.mem_cons.1 ((h z).1 (by simp [hz])) with e | e
      · exact absurd (e ▸ a1 z hz) (List.lt_irrefl _)
      · exact e
    · intro hz
      rcases List.mem_cons.1 ((h z).2 (by simp [hz])) with e | e
      · exact absurd (e ▸ b1 z hz) (List.lt_irrefl _)
      · exact e
theorem LRel.due {T : Le.Tab} {l : List LR} (h : LRel T l) {ln nw : Int} (hl : T.len = ln) {ss : List (List UInt8)} (hd : Le.Due T nw ss) : ss = ((l.filter (lrDue nw ln)).map (·.1)).map toB := by
  refine sorted_unique hd.rises ?_ fun z => ?_
  · rw [List.pairwise_map, List.pairwise_map]
    exact h.rises.filter _
  · have hz : z = toB ⟨z.toArray⟩ := (toB_mk z).symm
    rw [hz, hd.mem]
    generalize (⟨z.toArray⟩ : ByteArray) = x
    unfold Le.isDue
    rw [List.mem_map]
    constructor
    · intro e
      cases hg : T.g x with
      | none => rw [hg] at e; cases e
      | some q =>
        obtain ⟨c0, h0⟩ := q
        rw [hg] at e
        have e : T.len ≤ nw - h0 := of_decide_eq_true e
        refine ⟨x, List.mem_map.2 ⟨(x, c0, h0), List.mem_filter.2 ⟨(h.mem x c0 h0).1 hg, ?_⟩, rfl⟩, rfl⟩
        exact decide_eq_true (by show h0 ≤ nw - ln; omega)
    · rintro ⟨y, hy, e⟩
      obtain rfl := toB_inj e
      obtain ⟨⟨x0, c0, h0⟩, hm, rfl⟩ := List.mem_map.1 hy
      obtain ⟨h1, h2⟩ := List.mem_filter.1 hm
      rw [(h.mem x0 c0 h0).2 h1]
      have h2 : h0 ≤ nw - ln := of_decide_eq_true h2
      exact decide_eq_true (by show T.len ≤ nw - h0; omega)
/-- the last of a list that bears the path -/
def lastF (p : ByteArray) (l : List LR) : Option Int := l.foldl (fun r e => if lrNot p e = true then r else some e.2.1) none
theorem lastF_snoc (p : ByteArray) (l : List LR) (x : LR) : lastF p (l ++ [x]) = if lrNot p x = true then lastF p l else some x.2.1 := by unfold lastF; rw [List.foldl_append]; rfl
theorem lastF_some (p : ByteArray) (l : List LR) : (∀ c, lastF p l = some c → ∃ h, (p, c, h) ∈ l) ∧ (lastF p l = none → ∀ e ∈ l, e.1 ≠ p) := by
  suffices H : ∀ (l : List LR) (r : Option Int) (M : List LR), ((∀ c, r = some c → ∃ h, (p, c, h) ∈ M) ∧ (r = none → ∀ e ∈ M, e.1 ≠ p)) → ((∀ c, l.foldl (fun r e => if lrNot p e = true then r else some e.2.1) r = some c → ∃ h, (p, c, h) ∈ M ++ l) ∧ (l.foldl (fun r e => if lrNot p e = true then r else some e.2.1) r = none → ∀ e ∈ M ++ l, e.1 ≠ p)) by
    have := H l none [] ⟨(fun c e => by cases e), (fun _ e he => by cases he)⟩
    simpa [lastF] using this
  intro l
  induction l with
  | nil => intro r M h; simpa using h
  | cons x l ih =>
    intro r M h
    rw [List.foldl_cons]
    have := ih (if lrNot p x = true then r else some x.2.1) (M ++ [x]) (by
      by_cases hx : lrNot p x = true
      · rw [if_pos hx]
        refine ⟨fun c e => ?_, fun e y hy => ?_⟩
        · obtain ⟨h', hm⟩ := h.1 c e
          exact ⟨h', List.mem_append_left _ hm⟩
        · rcases List.mem_append.1 hy with hy | hy
          · exact h.2 e y hy
          · obtain rfl : y = x := by simpa using hy
            exact (lrNot_iff p y).1 hx
      · rw [if_neg hx]
        refine ⟨fun c e => ?_, fun e => by cases e⟩
        have hxp : x.1 = p := Classical.byContradiction fun h2 => hx ((lrNot_iff p x).2 h2)
        cases e
        exact ⟨x.2.2, List.mem_append_right _ (by rw [← hxp]; simp)⟩)
    rw [List.append_assoc] at this
    exact this
theorem LRel.last {T : Le.Tab} {l : List LR} (h : LRel T l) (p : ByteArray) : lastF p l = (T.g p).map (·.1) := by
  obtain ⟨h1, h2⟩ := lastF_some p l
  cases hq : lastF p l with
  | none =>
    cases hg : T.g p with
    | none => rfl
    | some q =>
      obtain ⟨c, hh⟩ := q
      exact absurd rfl (h2 hq _ ((h.mem p c hh).1 hg))
  | some c =>
    obtain ⟨hh, hm⟩ := h1 c hq
    rw [(h.mem p c hh).2 hm]
    rfl
end Go.Proofs.Ytngpmlolpigeoaa
