/- Reading arguments: from the form's own reading to plain Lean values. -/
import Derived.Test.YtgeeaddbapjikaaKit
import Derived.ProofKit
import Derived.OpenShut
import Derived.SizedLaws
import Derived.Deep.Slices
namespace Go.Proofs.Ytgeeaddbapjikaa
open Go.RowKit Go.Deep
set_option linter.unusedVariables false
set_option linter.unusedSimpArgs false
/-! ### flat types -/
inductive Leaf where
  | int (k : IntKind)
  | bool
  | str
def Leaf.Ok : Leaf → Value → Prop
  | .int k, v => ∃ n, v = .int k n ∧ (Lit.int k n).wf = true
  | .bool, v => ∃ b, v = .bool b
  | .str, v => ∃ s, v = .string s ∧ s.size ≤ 140737488351232
def Leaves : List Leaf → List Value → Prop
  | [], [] => True
  | l :: ks, v :: cs => l.Ok v ∧ Leaves ks cs
  | _, _ => False
def vb : Value → Nat
  | .string s => s.size + 1
  | _ => 1
def vbulk (cs : List Value) : Nat := (cs.map vb).sum
theorem Leaves.length : ∀ {ks : List Leaf} {cs : List Value}, Leaves ks cs → cs.length = ks.length
  | [], [], _ => rfl
  | _ :: _, _ :: _, h => by simp [Leaves.length h.2]
theorem Leaves.append : ∀ {ks ls : List Leaf} {cs ds : List Value}, Leaves ks cs → Leaves ls ds → Leaves (ks ++ ls) (cs ++ ds)
  | [], _, [], _, _, h => h
  | _ :: _, _, _ :: _, _, h, k => ⟨h.1, Leaves.append h.2 k⟩
mutual
def flat (P : Program) : Nat → TypeId → Option (List Leaf)
  | 0, _ => none
  | n + 1, t => match P.underlying t with
    | some .bool => some [.bool]
    | some (.int k) => some [.int k]
    | some .string => some [.str]
    | some (.struct fs) => (flatFields P n fs.toList 0).bind fun l => if l.length = P.cellsOf t then some l else none
    | some (.array m e) => (flat P n e).bind fun l => if l.length = P.cellsOf e ∧ m * P.cellsOf e = P.cellsOf t then some (List.replicate m l).flatten else none
    | _ => none
def flatFields (P : Program) : Nat → List Field → Nat → Option (List Leaf)
  | _, [], _ => some []
  | 0, _ :: _, _ => none
  | n + 1, f :: fs, off => if f.offset = off then (flat P n f.type).bind fun l => if l.length = P.cellsOf f.type then (flatFields P n fs (off + l.length)).map (l ++ ·) else none else none
end
theorem bulkAll_eq {H : Type} (l : List (DataW H)) : Rows.uptoBulkAll l = (l.map Rows.uptoBulk).sum := by
  induction l with
  | nil => rfl
  | cons d l ih => simp [Rows.uptoBulkAll, ih]
theorem bulk_pos {H : Type} (d : DataW H) : 1 ≤ Rows.uptoBulk d := by
  cases d with
  | lit l => cases l <;> simp [Rows.uptoBulk]
  | nil => simp [Rows.uptoBulk]
  | ptr d => simp [Rows.uptoBulk]
  | slice elems spare => simp [Rows.uptoBulk]
  | agg parts => simp [Rows.uptoBulk]
  | iface t d => simp [Rows.uptoBulk]
  | map entries => simp [Rows.uptoBulk]
  | held h => simp [Rows.uptoBulk]
section
variable {P : Program} {H : Type} {enc : TypeId × Value → H} {w : World} {base : Nat} {spare : Nat → Bool} {held : Bool}
theorem weights_each {ts : List TypeId} {ds : List (DataW H)} {j : Nat} {t : TypeId} {d : DataW H} (ht : ts[j]? = some t) (hd : ds[j]? = some d) : ∀ n ∈ d.weights P t, n ∈ DataW.weightsEach P ts ds := DataW.weights_mem_each ht hd
theorem weights_all {e : TypeId} {ds : List (DataW H)} {d : DataW H} (hd : d ∈ ds) : ∀ n ∈ d.weights P e, n ∈ DataW.weightsAll P e ds := by
  induction ds with
  | nil => cases hd
  | cons x l ih =>
    intro n hn
    simp only [DataW.weightsAll, List.mem_append]
    rcases List.mem_cons.1 hd with rfl | h
    · exact .inl hn
    · exact .inr (ih h n hn)
set_option maxHeartbeats 2000000 in
/-- A flat value, opened. -/
theorem flat_open (n : Nat) : (∀ (t : TypeId) (fuel : Nat) (cs : List Value) (d : DataW H) (ps : List MemPlace) (ks : List Leaf), flat P n t = some ks → DataW.trod enc P w base spare held fuel t cs = some (d, ps) →
      (∀ m ∈ d.weights P t, m ≤ reachBytes) → Leaves ks cs ∧ vbulk cs ≤ Rows.uptoBulk d) ∧
    (∀ (fs : List Field) (off : Nat) (ks : List Leaf) (cs : List Value) (ps : List (DataW H)), flatFields P n fs off = some ks → off + ks.length = cs.length → ps.length = fs.length →
      (∀ (i : Nat) (f : Field), fs[i]? = some f → ∃ p q fuel, ps[i]? = some p ∧ DataW.trod enc P w base spare held fuel f.type ((cs.drop f.offset).take (P.cellsOf f.type)) = some (p, q) ∧ ∀ m ∈ p.weights P f.type, m ≤ reachBytes) →
      Leaves ks (cs.drop off) ∧ vbulk (cs.drop off) ≤ Rows.uptoBulkAll ps) := by
  induction n with
  | zero =>
    refine ⟨fun t fuel cs d ps ks h => by simp [flat] at h, fun fs off ks cs ps h hl hp hf => ?_⟩
    cases fs with
    | nil =>
      simp [flatFields] at h; subst h
      simp at hl hp; subst hp
      simp [Leaves, vbulk, hl, Rows.uptoBulkAll]
    | cons f fs => simp [flatFields] at h
  | succ n ih =>
    refine ⟨fun t fuel cs d ps ks h ht hw => ?_, fun fs off ks cs ps h hl hp hf => ?_⟩
    · rw [flat] at h
      split at h
      · rename_i hu
        obtain rfl := Option.some.inj h
        obtain ⟨b, rfl, hx⟩ := DataW.trod_bool hu ht
        obtain ⟨rfl, rfl⟩ := Prod.mk.inj hx
        exact ⟨⟨⟨b, rfl⟩, trivial⟩, by simp [vbulk, vb, Rows.uptoBulk]⟩
      · rename_i k hu
        obtain rfl := Option.some.inj h
        obtain ⟨x, rfl, hx, hwf⟩ := DataW.trod_int hu ht
        obtain ⟨rfl, rfl⟩ := Prod.mk.inj hx
        exact ⟨⟨⟨x, rfl, hwf⟩, trivial⟩, by simp [vbulk, vb, Rows.uptoBulk]⟩
      · rename_i hu
        obtain rfl := Option.some.inj h
        obtain ⟨x, rfl, hx, _⟩ := DataW.trod_string hu ht
        obtain ⟨rfl, rfl⟩ := Prod.mk.inj hx
        have hsz := hw x.data.toList.length (by simp [DataW.weights])
        exact ⟨⟨⟨x, rfl, by simpa [reachBytes] using hsz⟩, trivial⟩, by simp [vbulk, vb, Rows.uptoBulk]⟩
      · rename_i fs hu
        obtain ⟨xs, m, rfl, hx, hlen, hxl, hel⟩ := DataW.trod_struct hu ht
        obtain ⟨rfl, rfl⟩ := Prod.mk.inj hx
        simp only [Option.bind_eq_some_iff] at h
        obtain ⟨l, h1, h2⟩ := h
        split at h2
        · rename_i hll
          simp at h2; subst h2
          have := ih.2 fs.toList 0 l cs (xs.map (·.1)) h1 (by omega) (by simp [hxl]) (fun i f hf => by
            have hf' : fs[i]? = some f := by simpa using hf
            have hi := hel i f hf'
            have hil : i < xs.length := by rw [hxl]; exact (Array.getElem?_eq_some_iff.1 hf').1
            rw [List.getElem?_eq_getElem hil] at hi
            refine ⟨xs[i].1, xs[i].2, m, by simp [hil], hi, fun k hk => hw k ?_⟩
            simp only [DataW.weights, hu]
            exact weights_each (j := i) (by simp [hf']) (by simp [hil]) k hk)
          rw [List.drop_zero] at this
          refine ⟨this.1, Nat.le_trans this.2 ?_⟩
          simp [Rows.uptoBulk]
        · simp at h2
      · rename_i k e hu
        obtain ⟨xs, m, rfl, hx, hlen, hxl, hel⟩ := DataW.trod_array hu ht
        obtain ⟨rfl, rfl⟩ := Prod.mk.inj hx
        simp only [Option.bind_eq_some_iff] at h
        obtain ⟨l, h1, h2⟩ := h
        split at h2
        · rename_i hll
          simp at h2; subst h2
          obtain ⟨hl1, hl2⟩ := hll
          have key : ∀ (j : Nat) (cs : List Value) (xs : List (DataW H × List MemPlace)), cs.length = j * P.cellsOf e → xs.length = j →
              (∀ i, i < j → DataW.trod enc P w base spare held m e ((cs.drop (i * P.cellsOf e)).take (P.cellsOf e)) = xs[i]?) → (∀ x ∈ xs, ∀ q ∈ x.1.weights P e, q ≤ reachBytes) →
              Leaves (List.replicate j l).flatten cs ∧ vbulk cs ≤ Rows.uptoBulkAll (xs.map (·.1)) := by
            intro j
            induction j with
            | zero =>
              intro cs xs hc hx _ _
              simp at hc hx
              subst hc; subst hx
              simp [Leaves, vbulk]
            | succ j ihj =>
              intro cs xs hc hx hi hq
              cases xs with
              | nil => simp at hx
              | cons x xs =>
                have h0 := hi 0 (by omega)
                simp only [Nat.zero_mul, List.drop_zero, List.getElem?_cons_zero] at h0
                have r0 := ih.1 e m _ x.1 x.2 l h1 h0 (hq x (List.mem_cons_self ..))
                have r1 := ihj (cs.drop (P.cellsOf e)) xs (by rw [List.length_drop, hc, Nat.add_mul]; omega) (by simpa using hx) (fun i hij => by
                  have := hi (i + 1) (by omega)
                  rw [List.getElem?_cons_succ] at this
                  rw [← this, List.drop_drop, Nat.add_mul, Nat.one_mul, Nat.add_comm]) (fun y hy => hq y (List.mem_cons_of_mem _ hy))
                rw [List.replicate_succ, List.flatten_cons]
                have hcs : cs = cs.take (P.cellsOf e) ++ cs.drop (P.cellsOf e) := (List.take_append_drop _ _).symm
                rw [hcs]
                refine ⟨r0.1.append r1.1, ?_⟩
                have a := r0.2; have b := r1.2
                simp only [vbulk, List.map_append, List.sum_append, List.map_cons, Rows.uptoBulkAll] at a b ⊢
                omega
          have := key k cs xs (by omega) hxl hel (fun x hx q hq => hw q (by simp only [DataW.weights, hu]; exact weights_all (List.mem_map.2 ⟨x, hx, rfl⟩) q hq))
          refine ⟨this.1, Nat.le_trans this.2 ?_⟩
          simp [Rows.uptoBulk]
        · simp at h2
      · simp at h
    · cases fs with
      | nil =>
        simp [flatFields] at h; subst h
        simp at hl hp; subst hp
        simp [Leaves, vbulk, hl, Rows.uptoBulkAll]
      | cons f fs =>
        rw [flatFields] at h
        split at h
        · rename_i hoff
          simp only [Option.bind_eq_some_iff] at h
          obtain ⟨l, h1, h2⟩ := h
          split at h2
          · rename_i hll
            simp only [Option.map_eq_some_iff] at h2
            obtain ⟨ks2, h2, rfl⟩ := h2
            cases ps with
            | nil => simp at hp
            | cons p ps =>
              obtain ⟨p0, q0, fuel, e0, t0, w0⟩ := hf 0 f rfl
              simp at e0; subst e0
              rw [hoff] at t0
              have r0 := ih.1 f.type fuel _ p q0 l h1 t0 w0
              rw [← hll] at r0
              have r1 := ih.2 fs (off + l.length) ks2 cs ps h2 (by simp at hl; omega) (by simpa using hp) (fun i g hg => hf (i + 1) g (by simpa using hg))
              have hcs : cs.drop off = (cs.drop off).take l.length ++ cs.drop (off + l.length) := by
                rw [← List.drop_drop]; exact (List.take_append_drop _ _).symm
              rw [hcs]
              refine ⟨r0.1.append r1.1, ?_⟩
              have a := r0.2; have b := r1.2
              simp only [vbulk, List.map_append, List.sum_append, Rows.uptoBulkAll] at a b ⊢
              omega
          · simp at h2
        · simp at h
end
theorem Leaves.cons_inv {l : Leaf} {ks : List Leaf} {cs : List Value} (h : Leaves (l :: ks) cs) : ∃ v ds, cs = v :: ds ∧ l.Ok v ∧ Leaves ks ds := by
  cases cs with
  | nil => exact h.elim
  | cons v ds => exact ⟨v, ds, rfl, h.1, h.2⟩
theorem Leaves.nil_inv {cs : List Value} (h : Leaves [] cs) : cs = [] := by
  cases cs with
  | nil => rfl
  | cons v ds => exact h.elim
theorem i64_of_wf {n : Int} (h : (Lit.int .i64 n).wf = true) : -9223372036854775808 ≤ n ∧ n ≤ 9223372036854775807 := by simpa [Lit.wf, IntKind.min, IntKind.max, IntKind.signed, IntKind.bits] using h
theorem Leaves.i64_inv {ks : List Leaf} {cs : List Value} (h : Leaves (.int .i64 :: ks) cs) : ∃ n ds, cs = .int .i64 n :: ds ∧ -9223372036854775808 ≤ n ∧ n ≤ 9223372036854775807 ∧ Leaves ks ds := by
  obtain ⟨v, ds, rfl, ⟨n, rfl, hn⟩, h2⟩ := h.cons_inv
  exact ⟨n, ds, rfl, (i64_of_wf hn).1, (i64_of_wf hn).2, h2⟩
theorem Leaves.str_inv {ks : List Leaf} {cs : List Value} (h : Leaves (.str :: ks) cs) : ∃ s ds, cs = .string s :: ds ∧ s.size ≤ 140737488351232 ∧ Leaves ks ds := by
  obtain ⟨v, ds, rfl, ⟨n, rfl, hn⟩, h2⟩ := h.cons_inv
  exact ⟨n, ds, rfl, hn, h2⟩
theorem Leaves.bool_inv {ks : List Leaf} {cs : List Value} (h : Leaves (.bool :: ks) cs) : ∃ b ds, cs = .bool b :: ds ∧ Leaves ks ds := by
  obtain ⟨v, ds, rfl, ⟨n, rfl⟩, h2⟩ := h.cons_inv
  exact ⟨n, ds, rfl, h2⟩
/-! ### readings of types -/
def Opens (P : Program) (w : World) (t : TypeId) {α : Type} (R : World → List Value → α → Prop) (bulk : α → Nat) : Prop :=
  ∀ (H : Type) (enc : TypeId × Value → H) (fuel : Nat) (cs : List Value) (d : DataW H) (ps : List MemPlace), DataW.trod enc P w 0 (fun _ => true) true fuel t cs = some (d, ps) →
    (∀ m ∈ d.weights P t, m ≤ reachBytes) → ∃ x : α, R w cs x ∧ bulk x ≤ Rows.uptoBulk d
theorem opens_flat {P : Program} {w : World} {t : TypeId} {n : Nat} {ks : List Leaf} (hf : flat P n t = some ks) {α : Type} (en : α → List Value) (Wf : α → Prop) (hdec : ∀ cs, Leaves ks cs → ∃ x, cs = en x ∧ Wf x) :
    Opens P w t (fun _ cs x => cs = en x ∧ Wf x) (fun x => vbulk (en x)) := by
  intro H enc fuel cs d ps ht hw
  obtain ⟨h1, h2⟩ := (flat_open n).1 t fuel cs d ps ks hf ht hw
  obtain ⟨x, rfl, hx⟩ := hdec cs h1
  exact ⟨x, ⟨rfl, hx⟩, h2⟩
/-- A slice, its elements read by R. -/
def RSl {α : Type} (sz bytes : Nat) (R : World → List Value → α → Prop) (w : World) (cs : List Value) (xs : List α) : Prop :=
  ∃ (a : Option Addr) (n cap : Nat), cs = [.slice a n cap] ∧ xs.length = n ∧ n ≤ cap ∧ cap * bytes ≤ 140737488351232 ∧ cap ≤ maxLen ∧ (a = none → cap = 0) ∧
    (0 < n → ∃ b off, a = some ⟨b, off, none⟩ ∧ b < w.heap.size ∧ ∀ (j : Nat) (x : α), xs[j]? = some x → ∃ es : List Value, es.length = sz ∧ (∀ (i : Nat) (c : Value), es[i]? = some c → w.cell? ⟨b, off + (j * sz + i), none⟩ = some c) ∧ R w es x)
theorem rsl_get {α : Type} {sz bytes : Nat} {en : α → List Value} {Wf : α → Prop} {w : World} {a : Option Addr} {n c : Nat} {xs : List α} (h : RSl sz bytes (fun _ cs (x : α) => cs = en x ∧ Wf x) w [.slice a n c] xs) :
    xs.length = n ∧ n ≤ c ∧ c * bytes ≤ 140737488351232 ∧ c ≤ maxLen ∧ ∀ (j : Nat) (x : α), xs[j]? = some x → ∃ b off, a = some ⟨b, off, none⟩ ∧ b < w.heap.size ∧ Wf x ∧ ∀ (i : Nat) (v : Value), (en x)[i]? = some v → w.cell? ⟨b, off + (j * sz + i), none⟩ = some v := by
  obtain ⟨a', n', c', hv, h1, h2, h3, h4, _, h6⟩ := h
  cases hv
  refine ⟨h1, h2, h3, h4, fun j x hx => ?_⟩
  obtain ⟨b, off, e1, e2, e3⟩ := h6 (by have := (List.getElem?_eq_some_iff.1 hx).1; omega)
  obtain ⟨es, _, k2, rfl, k4⟩ := e3 j x hx
  exact ⟨b, off, e1, e2, k4, k2⟩
def bulkL {α : Type} (bulk : α → Nat) (xs : List α) : Nat := (xs.map bulk).sum + 1
theorem choose_list {α : Type} (p : Nat → α → Prop) : ∀ n, (∀ i, i < n → ∃ x, p i x) → ∃ xs : List α, xs.length = n ∧ ∀ i x, xs[i]? = some x → p i x := by
  intro n
  induction n with
  | zero => intro _; exact ⟨[], rfl, fun i x h => by simp at h⟩
  | succ n ih =>
    intro h
    obtain ⟨xs, hl, hx⟩ := ih fun i hi => h i (by omega)
    obtain ⟨y, hy⟩ := h n (by omega)
    refine ⟨xs ++ [y], by simp [hl], fun i x hi => ?_⟩
    rcases Nat.lt_or_ge i n with h1 | h1
    · rw [List.getElem?_append_left (by omega)] at hi; exact hx i x hi
    · have := (List.getElem?_eq_some_iff.1 hi).1
      simp [hl] at this
      obtain rfl : i = n := by omega
      rw [List.getElem?_append_right (by omega)] at hi
      simp [hl] at hi; subst hi; exact hy
theorem cells_get {w : World} {a : Addr} {n : Nat} {cs : List Value} (h : w.cells? 0 a n = some cs) : cs.length = n ∧ ∀ i c, cs[i]? = some c → w.cell? (a.add i) = some c := by
  unfold World.cells? at h
  rw [if_pos (Nat.zero_le _)] at h
  have hl := mapM_some_length h
  simp at hl
  refine ⟨hl, fun i c hc => ?_⟩
  have hi : i < n := by have := (List.getElem?_eq_some_iff.1 hc).1; omega
  have := mapM_some_get h i i (by simp [hi])
  rw [this, hc]
theorem opens_slice {P : Program} {w : World} {t e : TypeId} {sz bytes : Nat} (hu : P.underlying t = some (.slice e)) (hc : P.cellsOf e = sz) (hb : P.bytesOf e = bytes) (hs : 0 < sz) {α : Type} {R : World → List Value → α → Prop} {bulk : α → Nat}
    (hR : Opens P w e R bulk) : Opens P w t (RSl sz bytes R) (bulkL bulk) := by
  intro H enc fuel cs d ps ht hw
  rcases open_slice hu ht with ⟨rfl, hx⟩ | ⟨a, len, cap, m, n, D, Pl, rfl, _, hlc, hcm, hm, hx, hel⟩
  · obtain ⟨rfl, rfl⟩ := Prod.mk.inj hx
    exact ⟨[], ⟨none, 0, 0, rfl, rfl, Nat.le_refl _, by simp, by simp [maxLen], fun _ => rfl, fun h => by omega⟩, by simp [bulkL, Rows.uptoBulk]⟩
  · obtain ⟨rfl, rfl⟩ := Prod.mk.inj hx
    simp only [if_true] at hm
    subst hm
    simp only [DataW.weights, hu, List.mem_cons, List.mem_append] at hw
    have hcap := hw _ (.inl rfl)
    simp only [List.length_map, List.length_range] at hcap
    rw [show len + (m - len) = m by omega, hb] at hcap
    have hex : ∀ i, i < len → ∃ x : α, (∃ es : List Value, es.length = sz ∧ (∀ (k : Nat) (c : Value), es[k]? = some c → w.cell? ((a.add (i * sz)).add k) = some c) ∧ R w es x) ∧ bulk x ≤ Rows.uptoBulk (D i) := by
      intro i hi
      obtain ⟨es, h1, h2⟩ := hel i (by omega)
      rw [hc] at h1
      obtain ⟨g1, g2⟩ := cells_get h1
      obtain ⟨x, hx, hbx⟩ := hR H enc n es (D i) (Pl i) h2 (fun k hk => hw k (.inr (.inl (weights_all (List.mem_map.2 ⟨i, by simp [hi], rfl⟩) k hk))))
      exact ⟨x, ⟨es, g1, g2, hx⟩, hbx⟩
    obtain ⟨xs, hl, hxs⟩ := choose_list _ len hex
    refine ⟨xs, ⟨some a, len, m, rfl, hl, hlc, by simpa [reachBytes] using hcap, hcm, (fun h => by cases h), fun hpos => ?_⟩, ?_⟩
    · have hsp : a.spot = none := by
        obtain ⟨x0, hx0⟩ : ∃ x, xs[0]? = some x := ⟨xs[0]'(by omega), List.getElem?_eq_getElem (by omega)⟩
        obtain ⟨⟨es, e1, e2, _⟩, _⟩ := hxs 0 x0 hx0
        obtain ⟨c, hc'⟩ : ∃ c, es[0]? = some c := ⟨es[0]'(by omega), List.getElem?_eq_getElem (by omega)⟩
        have := e2 0 c hc'
        simp only [Nat.zero_mul, Addr.add, if_true] at this
        unfold World.cell? at this
        split at this
        · cases hq : a.spot with
          | none => rfl
          | some _ => rw [hq] at this; simp at this
        · cases this
      obtain ⟨b, off, sp⟩ := a
      simp only at hsp
      subst hsp
      have hadd : ∀ i k, ((⟨b, off, none⟩ : Addr).add i).add k = ⟨b, off + (i + k), none⟩ := by
        intro i k; unfold Addr.add
        by_cases h1 : i = 0 <;> by_cases h2 : k = 0 <;> simp [h1, h2] <;> omega
      have hcell : ∀ (j : Nat) (x : α), xs[j]? = some x → ∃ es : List Value, es.length = sz ∧ (∀ (i : Nat) (c : Value), es[i]? = some c → w.cell? ⟨b, off + (j * sz + i), none⟩ = some c) ∧ R w es x := by
        intro j x hj
        obtain ⟨⟨es, e1, e2, e3⟩, _⟩ := hxs j x hj
        exact ⟨es, e1, fun i c hi => by rw [← hadd]; exact e2 i c hi, e3⟩
      refine ⟨b, off, rfl, ?_, hcell⟩
      obtain ⟨es, e1, e2, _⟩ := hcell 0 _ (List.getElem?_eq_getElem (by omega))
      exact World.block_lt_of_cell? w _ (e2 0 (es[0]'(by omega)) (List.getElem?_eq_getElem (by omega)))
    · simp only [bulkL, Rows.uptoBulk, bulkAll_eq]
      have : (xs.map bulk).sum ≤ (((List.range len).map D).map Rows.uptoBulk).sum := by
        rw [List.map_map]
        have key : ∀ (k : Nat) (ys : List α), ys.length = k → (∀ i x, ys[i]? = some x → bulk x ≤ Rows.uptoBulk (D i)) → (ys.map bulk).sum ≤ ((List.range k).map (Rows.uptoBulk ∘ D)).sum := by
          intro k
          induction k with
          | zero => intro ys hy _; obtain rfl := List.eq_nil_of_length_eq_zero hy; simp
          | succ k ihk =>
            intro ys hy hb'
            have hsplit : ys = ys.take k ++ [ys[k]'(by omega)] := by
              rw [← List.take_succ_eq_append_getElem (by omega), List.take_of_length_le (by omega)]
            rw [hsplit, List.range_succ]
            have i1 := ihk (ys.take k) (by rw [List.length_take]; omega) (fun i x hi => hb' i x (by rw [List.getElem?_take] at hi; split at hi; exact hi; cases hi))
            have i2 := hb' k _ (List.getElem?_eq_getElem (show k < ys.length by omega))
            simp only [List.map_append, List.sum_append, List.map_cons, List.map_nil, List.sum_cons, List.sum_nil, Function.comp_apply] at i1 ⊢
            omega
        exact key len xs hl (fun i x hi => (hxs i x hi).2)
      omega
end Go.Proofs.Ytgeeaddbapjikaa
