/- Ranges over a map of a call's own, and how many entries it has. -/
import Derived.Test.YtngpmlolpigeoaaMaps
import Derived.Maps.RangeWalk
namespace Go.Proofs.Ytngpmlolpigeoaa
open Go.RowKit Go.Maps Go.ChangeMaps Go.MapKept Go.WideShapes
open Go.WideElems (Fit rd rg pl rd_key rd_val rg_of)
set_option linter.unusedVariables false
set_option linter.unusedSimpArgs false
theorem nodup_sub_length {α : Type} [DecidableEq α] : ∀ (l m : List α), l.Nodup → (∀ x ∈ l, x ∈ m) → l.length ≤ m.length
  | [], _, _, _ => Nat.zero_le _
  | a :: l, m, h, hs => by
    obtain ⟨h1, h2⟩ := List.nodup_cons.1 h
    have ha := hs a (by simp)
    have := nodup_sub_length l (m.erase a) h2 fun x hx => (List.mem_erase_of_ne (by intro e; subst e; exact h1 hx)).2 (hs x (by simp [hx]))
    have hl := List.length_erase_of_mem ha
    have : 0 < m.length := List.length_pos_of_mem ha
    simp only [List.length_cons]
    omega
def KeyInv {P : Program} {K : TypeId} {α : Type} (k : Key P K α) : Prop := ∀ v l, keyOf P K v = some l → ∃ x, v = k.kv x ∧ k.ok x
theorem strInv {P : Program} {K : TypeId} (hk : P.underlying K = some .string) : KeyInv (strKey (P := P) (K := K) hk) := fun v l h => by
  obtain ⟨s, e, _, h2⟩ := Go.WideMaps.string_of_keyOf hk h
  exact ⟨s, e, h2⟩
section
variable {P : Program} {K : TypeId} {α : Type} {w : World} {k : Key P K α} {b n : Nat} {g : α → Option Value}
theorem ranges_fr {H : Type} {R : Value → Option (DataW H × List MemPlace)} {r : Nat} {D : DataW H} {left : Lit → Bool} {cnt : Nat} {w' : World} {S : Nat → Prop} (h : w.ranges P K R b r n D left cnt) (hf : Fr w w' S) (hb : ¬ S b) (hr : ¬ S r) : w'.ranges P K R b r n D left cnt := by
  have h1 := h.owns.lt
  have h2 := h.lt
  obtain ⟨es, clock, since, seen, c0, hB, F, hs, hD, hR, rest⟩ := h
  exact ⟨es, clock, since, seen, c0, (hf.block b h1 hb).trans hB, F, hs, hD, (hf.block r h2 hr).trans hR, rest⟩
/-- As many entries as keys that may be there. -/
theorem MapAt.tight [DecidableEq α] (h : MapAt w k b n g) (hi : KeyInv k) (L : List α) (hL : ∀ x, k.ok x → (g x).isSome = true → x ∈ L) : MapAt w k b L.length g := by
  obtain ⟨D, ⟨es, clock, hb, F, hs, hD⟩, hg⟩ := h
  refine ⟨D, ⟨es, clock, hb, F, ?_, hD⟩, hg⟩
  have hk : ∀ x ∈ es.toList, ∃ a, x.key = k.kv a ∧ k.ok a ∧ (rg P K anyElem x).1 = k.ke a ∧ (g a).isSome = true := fun x hx => by
    obtain ⟨y, hy⟩ := F.reads x hx
    obtain ⟨a, e, ha⟩ := hi _ _ (rd_key hy)
    have e1 : (rg P K anyElem x).1 = k.ke a := by
      rw [rg_of hy]
      have := rd_key hy
      rw [e, k.of a ha] at this
      exact (Option.some.inj this).symm
    refine ⟨a, e, ha, e1, ?_⟩
    rw [← (hg a ha).2, hD, ← e1]
    exact List.any_eq_true.2 ⟨rg P K anyElem x, mem_sorted.2 (List.mem_map.2 ⟨x, hx, rfl⟩), WideAt.sameKey_self (by rw [rg_of hy]; exact k.keyed.key (rd_key hy))⟩
  have hap := Maps.fit_apart k.keyed F
  clear hD hg hs hb
  suffices h : ∀ l : List MapEntry, (∀ x ∈ l, ∃ a, x.key = k.kv a ∧ k.ok a ∧ (rg P K anyElem x).1 = k.ke a ∧ (g a).isSome = true) → (l.map (rg P K anyElem)).Pairwise (fun p q => p.1 ≠ q.1) → ∃ m : List α, m.length = l.length ∧ m.Nodup ∧ ∀ a ∈ m, k.ok a ∧ (g a).isSome = true ∧ ∃ x ∈ l, (rg P K anyElem x).1 = k.ke a by
    obtain ⟨m, h1, h2, h3⟩ := h es.toList hk hap
    rw [← Array.length_toList, ← h1]
    exact nodup_sub_length m L h2 fun a ha => hL a (h3 a ha).1 (h3 a ha).2.1
  intro l
  induction l with
  | nil => intro _ _; exact ⟨[], rfl, List.nodup_nil, fun a ha => by cases ha⟩
  | cons x l ih =>
    intro h1 h2
    rw [List.map_cons, List.pairwise_cons] at h2
    obtain ⟨m, e1, e2, e3⟩ := ih (fun y hy => h1 y (by simp [hy])) h2.2
    obtain ⟨a, _, ha, hx, hs⟩ := h1 x (by simp)
    refine ⟨a :: m, by simp [e1], List.nodup_cons.2 ⟨fun hm => ?_, e2⟩, fun c hc => ?_⟩
    · obtain ⟨_, _, y, hy, e⟩ := e3 a hm
      exact h2.1 _ (List.mem_map.2 ⟨y, hy, rfl⟩) (hx.trans e.symm)
    · rcases List.mem_cons.1 hc with rfl | hc
      · exact ⟨ha, hs, x, by simp, hx⟩
      · obtain ⟨q1, q2, y, hy, e⟩ := e3 c hc
        exact ⟨q1, q2, y, by simp [hy], e⟩
/-- A range over block b's map under way, its iterator in block r; done: the keys that have come. -/
def MapR [DecidableEq α] (w : World) (k : Key P K α) (b r n : Nat) (g : α → Option Value) (done : List α) : Prop :=
  ∃ (D : DataW Value) (left : Lit → Bool) (cnt : Nat), w.ranges P K anyElem b r n D left cnt ∧ (∀ x, k.ok x → (∀ z, D.atKey (k.ke x) z = seen (g x) z) ∧ Maps.has D (k.ke x) = (g x).isSome) ∧
    (∀ x, k.ok x → left (k.ke x) = ((g x).isSome && !decide (x ∈ done))) ∧ done.Nodup ∧ ∀ x ∈ done, k.ok x ∧ (g x).isSome = true
variable [DecidableEq α]
theorem MapR.owns {r : Nat} {done : List α} (h : MapR w k b r n g done) : MapAt w k b n g := by
  obtain ⟨D, left, cnt, h1, h2, _⟩ := h
  exact ⟨D, h1.owns, h2⟩
theorem MapR.lt {r : Nat} {done : List α} (h : MapR w k b r n g done) : b < w.heap.size ∧ r < w.heap.size ∧ r ≠ b := by
  obtain ⟨D, left, cnt, h1, h2, _⟩ := h
  exact ⟨h1.owns.lt, h1.lt, h1.ne⟩
theorem MapR.fr {r : Nat} {done : List α} {w' : World} {S : Nat → Prop} (h : MapR w k b r n g done) (hf : Fr w w' S) (hb : ¬ S b) (hr : ¬ S r) : MapR w' k b r n g done := by
  obtain ⟨D, left, cnt, h1, h2⟩ := h
  exact ⟨D, left, cnt, ranges_fr h1 hf hb hr, h2⟩
theorem rangeLeft_fr {w' : World} {r : Nat} {S : Nat → Prop} (hf : Fr w w' S) (hb : ¬ S b) (hr : ¬ S r) (h1 : b < w.heap.size) (h2 : r < w.heap.size) : w'.rangeLeft b r = w.rangeLeft b r := by
  unfold World.rangeLeft
  rw [hf.block b h1 hb, hf.block r h2 hr]
end
/-! ### at the operation -/
section
variable {P : Program} {K : TypeId} {α : Type} [DecidableEq α] {k : Key P K α} (w : World) {ops : Array Oper} {rest : List Oper} {o : Oper} {a : Act} {Q : Exit → Act → World → Prop}
theorem wpList_rangeM (hg : o.guard = none) (m : Operand) (t : TypeId) (hop : o.op = Op.range t m) (e : TypeId) (ht : P.underlying t = some (.map K e)) (b n : Nat) (g : α → Option Value)
    (hm : a.eval m = .map (some b)) (hM : MapAt w k b n g)
    (hK : ∀ w', Hid (MapR w' k b w.heap.size n g []) → Hid (Fr w w' (fun _ => False)) → w'.heap.size = w.heap.size + 1 → wpList P ops Q rest (a.put o.dst (.pointer (some ⟨w.heap.size, 0, none⟩))) w') :
    wpList P ops Q (o :: rest) a w := by
  obtain ⟨D, hD, hx⟩ := hM
  refine wpList_range_own w hg m t hop K e k.keyed ht anyElem b n D hm hD fun w' h1 h2 h3 => hK w' ?_ (Lib.hid (Fr.of_grown h2 fun k e => by cases e)) h3
  exact Lib.hid ⟨D, _, _, h1, hx, fun x ho => by rw [(hx x ho).2]; simp, List.nodup_nil, fun x hx => by cases hx⟩
theorem wpList_nextM (hg : o.guard = none) (it : Operand) (hop : o.op = Op.next it false) (hi : KeyInv k) (b r n : Nat) (g : α → Option Value) (done : List α)
    (hit : a.eval it = .pointer (some ⟨r, 0, none⟩)) (h : MapR w k b r n g done)
    (hDone : (∀ x, k.ok x → (g x).isSome = true → x ∈ done) → wpList P ops Q rest (a.put o.dst (.tuple #[.bool false])) w)
    (hMore : ∀ (x : α) (v : Value) (w' : World), k.ok x → g x = some v → ¬ x ∈ done → Hid (MapR w' k b r n g (done ++ [x])) → Hid (w'.rangeLeft b r < w.rangeLeft b r) → Hid (Fr w w' (fun j => j = r)) → w'.heap.size = w.heap.size →
      (Instr.entry (.pointer (some ⟨r, 0, none⟩))).run P w' = .ok (.tuple #[k.kv x, v]) w' → wpList P ops Q rest (a.put o.dst (.tuple #[.bool true, k.kv x, v])) w') :
    wpList P ops Q (o :: rest) a w := by
  obtain ⟨D, left, cnt, hR, h1, h2, h3, h4⟩ := h
  refine wpList_plain hg fun K' hK' => ?_
  unfold Oper.wp
  rcases hR.next k.keyed o.type with ⟨h0, hl, hrun⟩ | ⟨key, v, kl, y, w', cnt', hkey, hlk, hv, hat, hrun, hrg, hlt, hgr, hsz, hen⟩
  · simp [execOp, hop, hit, hrun, Result.andThen]
    refine hK' _ _ (hDone fun x ho hs => ?_)
    have := h2 x ho
    rw [hl, hs] at this
    simpa using this
  · obtain ⟨x, rfl, ho⟩ := hi key kl hkey
    obtain rfl : k.ke x = kl := Option.some.inj ((k.of x ho).symm.trans hkey)
    have hlx := h2 x ho
    rw [hlk] at hlx
    have hlx' : (g x).isSome = true ∧ ¬ x ∈ done := by simpa using hlx.symm
    obtain ⟨u, hu⟩ := Option.isSome_iff_exists.1 hlx'.1
    have hvu : v = u := by
      have e1 := (h1 x ho).1 (.held v)
      rw [hat, hu] at e1
      simp only [anyElem, Option.some.injEq] at hv
      subst hv
      simp only [seen] at e1
      cases e1
      rfl
    subst hvu
    simp [execOp, hop, hit, hrun, Result.andThen]
    refine hK' _ _ (hMore x v w' ho hu hlx'.2 (Lib.hid ⟨D, _, _, hrg, h1, fun z hz => ?_, ?_, fun z hz => ?_⟩) (Lib.hid ?_) (Lib.hid (Fr.of_grown hgr fun j e => by cases e; rfl)) hsz hen)
    · show (left (k.ke z) && !(k.ke z).sameKey (k.ke x)) = _
      rw [h2 z hz]
      by_cases e : z = x
      · subst e
        rw [WideAt.sameKey_self (k.keyed.key (k.of z hz))]
        simp
      · have : (k.ke z).sameKey (k.ke x) = false := Maps.sameKey_ne fun e' => e (k.inj z x hz ho e')
        rw [this]
        simp [e]
    · rw [List.nodup_append]
      exact ⟨h3, by simp, fun p hp q hq e => by simp at hq; subst hq; subst e; exact hlx'.2 hp⟩
    · rcases List.mem_append.1 hz with hz | hz
      · exact h4 z hz
      · obtain rfl : z = x := by simpa using hz
        exact ⟨ho, hlx'.1⟩
    · rw [hrg.left_eq, hR.left_eq]; exact hlt
end
end Go.Proofs.Ytngpmlolpigeoaa
