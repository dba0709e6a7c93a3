/- A laid variable of flat type: its cells are the literals of its datum. -/
import Derived.Test.YtclalapadpjclaaDoorRead
namespace Go.Proofs.YtclalapadpjclaaDoor
open Go.RowKit Go.Deep
set_option linter.unusedVariables false
set_option linter.unusedSimpArgs false
def litV : Lit → Option Value
  | .int k n => some (.int k n)
  | .bool b => some (.bool b)
  | .string l => some (.string ⟨l.toArray⟩)
  | _ => none
mutual
def lits {H : Type} : DataW H → Option (List Value)
  | .lit l => (litV l).map fun v => [v]
  | .agg ps => litsAll ps
  | _ => none
def litsAll {H : Type} : List (DataW H) → Option (List Value)
  | [] => some []
  | d :: ds => (lits d).bind fun a => (litsAll ds).map (a ++ ·)
end
section
variable {P : Program} {H : Type} {enc : TypeId × Value → H} {w : World} {base : Nat} {spare : Nat → Bool} {held : Bool}
set_option maxHeartbeats 2000000 in
theorem flat_lits (n : Nat) : (∀ (t : TypeId) (fuel : Nat) (cs : List Value) (d : DataW H) (ps : List MemPlace) (ks : List Leaf) (vs : List Value), flat P n t = some ks → DataW.trod enc P w base spare held fuel t cs = some (d, ps) →
      lits d = some vs → cs = vs ∧ cs.length = ks.length) ∧
    (∀ (fs : List Field) (off : Nat) (ks : List Leaf) (cs : List Value) (ps : List (DataW H)) (vs : List Value), flatFields P n fs off = some ks → off + ks.length = cs.length → ps.length = fs.length →
      (∀ (i : Nat) (f : Field), fs[i]? = some f → ∃ p q fuel, ps[i]? = some p ∧ DataW.trod enc P w base spare held fuel f.type ((cs.drop f.offset).take (P.cellsOf f.type)) = some (p, q)) →
      litsAll ps = some vs → cs.drop off = vs) := by
  induction n with
  | zero =>
    refine ⟨fun t fuel cs d ps ks vs h => by simp [flat] at h, fun fs off ks cs ps vs h hl hp hf hv => ?_⟩
    cases fs with
    | nil =>
      simp [flatFields] at h; subst h
      simp at hl hp; subst hp
      simp [litsAll] at hv; subst hv
      rw [hl]; simp
    | cons f fs => simp [flatFields] at h
  | succ n ih =>
    refine ⟨fun t fuel cs d ps ks vs h ht hv => ?_, fun fs off ks cs ps vs h hl hp hf hv => ?_⟩
    · rw [flat] at h
      split at h
      · rename_i hu
        obtain rfl := Option.some.inj h
        obtain ⟨b, rfl, hx⟩ := DataW.trod_bool hu ht
        obtain ⟨rfl, rfl⟩ := Prod.mk.inj hx
        simp [lits, litV] at hv; subst hv; exact ⟨rfl, rfl⟩
      · rename_i k hu
        obtain rfl := Option.some.inj h
        obtain ⟨x, rfl, hx, hwf⟩ := DataW.trod_int hu ht
        obtain ⟨rfl, rfl⟩ := Prod.mk.inj hx
        simp [lits, litV] at hv; subst hv; exact ⟨rfl, rfl⟩
      · rename_i hu
        obtain rfl := Option.some.inj h
        obtain ⟨x, rfl, hx, _⟩ := DataW.trod_string hu ht
        obtain ⟨rfl, rfl⟩ := Prod.mk.inj hx
        simp [lits, litV] at hv; subst hv; exact ⟨rfl, rfl⟩
      · rename_i fs hu
        obtain ⟨xs, m, rfl, hx, hlen, hxl, hel⟩ := DataW.trod_struct hu ht
        obtain ⟨rfl, rfl⟩ := Prod.mk.inj hx
        simp only [Option.bind_eq_some_iff] at h
        obtain ⟨l, h1, h2⟩ := h
        split at h2
        · rename_i hll
          simp at h2; subst h2
          have := ih.2 fs.toList 0 l cs (xs.map (·.1)) vs h1 (by omega) (by simp [hxl]) (fun i f hf => by
            have hf' : fs[i]? = some f := by simpa using hf
            have hi := hel i f hf'
            have hil : i < xs.length := by rw [hxl]; exact (Array.getElem?_eq_some_iff.1 hf').1
            rw [List.getElem?_eq_getElem hil] at hi
            exact ⟨xs[i].1, xs[i].2, m, by simp [hil], hi⟩) (by simpa [lits] using hv)
          rw [List.drop_zero] at this
          exact ⟨this, by omega⟩
        · simp at h2
      · rename_i k e hu
        obtain ⟨xs, m, rfl, hx, hlen, hxl, hel⟩ := DataW.trod_array hu ht
        obtain ⟨rfl, rfl⟩ := Prod.mk.inj hx
        simp only [Option.bind_eq_some_iff] at h
        obtain ⟨l, h1, h2⟩ := h
        split at h2
        · rename_i hll
          simp at h2; subst h2
          obtain ⟨hl1, hl2⟩ := hll
          have key : ∀ (j : Nat) (cs : List Value) (xs : List (DataW H × List MemPlace)) (vs : List Value), cs.length = j * P.cellsOf e → xs.length = j →
              (∀ i, i < j → DataW.trod enc P w base spare held m e ((cs.drop (i * P.cellsOf e)).take (P.cellsOf e)) = xs[i]?) → litsAll (xs.map (·.1)) = some vs → cs = vs := by
            intro j
            induction j with
            | zero =>
              intro cs xs vs hc hx _ hv
              simp at hc hx
              subst hc; subst hx
              simp [litsAll] at hv; exact hv.symm ▸ rfl
            | succ j ihj =>
              intro cs xs vs hc hx hi hv
              cases xs with
              | nil => simp at hx
              | cons x xs =>
                have h0 := hi 0 (by omega)
                simp only [Nat.zero_mul, List.drop_zero, List.getElem?_cons_zero] at h0
                simp only [List.map_cons, litsAll, Option.bind_eq_some_iff, Option.map_eq_some_iff] at hv
                obtain ⟨a, ha, b, hb, rfl⟩ := hv
                have r0 := ih.1 e m _ x.1 x.2 l a h1 h0 ha
                have r1 := ihj (cs.drop (P.cellsOf e)) xs b (by rw [List.length_drop, hc, Nat.add_mul]; omega) (by simpa using hx) (fun i hij => by
                  have := hi (i + 1) (by omega)
                  rw [List.getElem?_cons_succ] at this
                  rw [← this, List.drop_drop, Nat.add_mul, Nat.one_mul, Nat.add_comm]) hb
                rw [← List.take_append_drop (P.cellsOf e) cs, r0.1, r1]
          refine ⟨key k cs xs vs (by omega) hxl hel (by simpa [lits] using hv), ?_⟩
          rw [hlen, ← hl2]
          simp [hl1]
        · simp at h2
      · simp at h
    · cases fs with
      | nil =>
        simp [flatFields] at h; subst h
        simp at hl hp; subst hp
        simp [litsAll] at hv; subst hv
        rw [hl]; simp
      | cons f fs =>
        rw [flatFields] at h
        split at h
        · rename_i hoff
          simp only [Option.bind_eq_some_iff] at h
          obtain ⟨l, h1, h2⟩ := h
          split at h2
          · rename_i hll
            simp only [Option.map_eq_some_iff] at h2
            obtain ⟨ks2, h2, rfl⟩ := h2
            cases ps with
            | nil => simp at hp
            | cons p ps =>
              obtain ⟨p0, q0, fuel, e0, t0⟩ := hf 0 f rfl
              simp at e0; subst e0
              rw [hoff] at t0
              simp only [litsAll, Option.bind_eq_some_iff, Option.map_eq_some_iff] at hv
              obtain ⟨a, ha, b, hb, rfl⟩ := hv
              have r0 := ih.1 f.type fuel _ p q0 l a h1 t0 ha
              have r1 := ih.2 fs (off + l.length) ks2 cs ps b h2 (by simp at hl; omega) (by simpa using hp) (fun i g hg => hf (i + 1) g (by simpa using hg)) hb
              rw [← List.take_append_drop l.length (cs.drop off), List.drop_drop, r1, ← r0.1, hll]
          · simp at h2
        · simp at h
end
/-- The first laid variable: its cells. -/
theorem laid_cells {P : Program} {W : World} {name : String} {d : DataW Unit} {rest : List (String × DataW Unit)} {g : Nat} {t : TypeId} {n : Nat} {ks : List Leaf} {vs : List Value}
    (hg : P.globalNamed name = some g) (hty : (P.globals[g]?).map (·.type) = some t) (hf : flat P n t = some ks) (hv : lits d = some vs)
    (h : laidMet P ((name, d) :: rest) W) : ∀ j u, vs[j]? = some u → W.cell? ⟨g, j, none⟩ = some u := by
  obtain ⟨ps, ⟨g', t', cs, fuel, p, q, hg', ht', hvar, hd, _, _⟩, _⟩ := h
  obtain rfl := Option.some.inj (hg.symm.trans hg')
  obtain rfl := Option.some.inj (hty.symm.trans ht')
  obtain ⟨he, _⟩ := (flat_lits n).1 t fuel _ d _ ks vs hf hd hv
  intro j u hu
  obtain ⟨h1, h2⟩ := List.getElem?_eq_some_iff.1 hu
  have hlt : j < cs.size := by
    have := congrArg List.length he
    simp at this; omega
  have := World.var?_cell hg hvar j
  rw [this]
  have h3 : cs.toList[j]? = some u := by rw [he]; exact hu
  simpa using h3
end Go.Proofs.YtclalapadpjclaaDoor
