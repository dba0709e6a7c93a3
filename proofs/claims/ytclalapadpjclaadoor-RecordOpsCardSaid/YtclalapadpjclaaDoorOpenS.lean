/- Reading arguments that are structs of whatever fields. -/
import Derived.Test.YtclalapadpjclaaDoorMake
namespace Go.Proofs.YtclalapadpjclaaDoor
open Go.RowKit Go.Deep
set_option linter.unusedVariables false
set_option linter.unusedSimpArgs false
def OpensF (P : Program) (w : World) (fs : List Field) (off n : Nat) {α : Type} (R : World → List Value → α → Prop) (bulk : α → Nat) : Prop :=
  ∀ (H : Type) (enc : TypeId × Value → H) (cs : List Value) (ps : List (DataW H)), cs.length = n → ps.length = fs.length →
    (∀ (i : Nat) (f : Field), fs[i]? = some f → ∃ p q fuel, ps[i]? = some p ∧ DataW.trod enc P w 0 (fun _ => true) true fuel f.type ((cs.drop f.offset).take (P.cellsOf f.type)) = some (p, q) ∧ ∀ m ∈ p.weights P f.type, m ≤ reachBytes) →
    ∃ x, R w (cs.drop off) x ∧ bulk x ≤ Rows.uptoBulkAll ps
theorem opensF_nil {P : Program} {w : World} {off n : Nat} (h : n ≤ off) : OpensF P w [] off n (fun _ cs (_ : Unit) => cs = []) (fun _ => 0) := fun H enc cs ps hl hp _ =>
  ⟨(), List.drop_eq_nil_of_le (by omega), Nat.zero_le _⟩
theorem opensF_cons {P : Program} {w : World} {f : Field} {fs : List Field} {off n sz : Nat} {α β : Type} {R1 : World → List Value → α → Prop} {b1 : α → Nat} {R2 : World → List Value → β → Prop} {b2 : β → Nat}
    (ho : f.offset = off) (hc : P.cellsOf f.type = sz) (h1 : Opens P w f.type R1 b1) (h2 : OpensF P w fs (off + sz) n R2 b2) :
    OpensF P w (f :: fs) off n (fun w cs (x : α × β) => R1 w (cs.take sz) x.1 ∧ R2 w (cs.drop sz) x.2) (fun x => b1 x.1 + b2 x.2) := by
  intro H enc cs ps hl hp hf
  cases ps with
  | nil => simp at hp
  | cons p ps =>
    obtain ⟨p0, q0, fuel, e0, t0, w0⟩ := hf 0 f rfl
    simp at e0; subst e0
    rw [ho, hc] at t0
    obtain ⟨x, hx, hbx⟩ := h1 H enc fuel _ p q0 t0 w0
    obtain ⟨y, hy, hby⟩ := h2 H enc cs ps hl (by simpa using hp) (fun i g hg => hf (i + 1) g (by simpa using hg))
    refine ⟨(x, y), ⟨hx, by rw [List.drop_drop]; exact hy⟩, ?_⟩
    simp only [Rows.uptoBulkAll]
    omega
theorem opens_struct {P : Program} {w : World} {t : TypeId} {fs : Array Field} {n : Nat} {α : Type} {R : World → List Value → α → Prop} {bulk : α → Nat}
    (hu : P.underlying t = some (.struct fs)) (hc : P.cellsOf t = n) (hF : OpensF P w fs.toList 0 n R bulk) : Opens P w t R bulk := by
  intro H enc fuel cs d ps ht hw
  obtain ⟨xs, m, rfl, hx, hlen, hxl, hel⟩ := DataW.trod_struct hu ht
  obtain ⟨rfl, rfl⟩ := Prod.mk.inj hx
  obtain ⟨x, h1, h2⟩ := hF H enc cs (xs.map (·.1)) (by omega) (by simp [hxl]) (fun i f hf => by
    have hf' : fs[i]? = some f := by simpa using hf
    have hi := hel i f hf'
    have hil : i < xs.length := by rw [hxl]; exact (Array.getElem?_eq_some_iff.1 hf').1
    rw [List.getElem?_eq_getElem hil] at hi
    refine ⟨xs[i].1, xs[i].2, m, by simp [hil], hi, fun k hk => hw k ?_⟩
    simp only [DataW.weights, hu]
    exact weights_each (j := i) (by simp [hf']) (by simp [hil]) k hk)
  rw [List.drop_zero] at h1
  exact ⟨x, h1, by simp only [Rows.uptoBulk]; omega⟩
end Go.Proofs.YtclalapadpjclaaDoor
