/- leases: the law's own word: a lease runs out. -/
import Derived.Test.YtngpmlolpigeoaaLease3
namespace Go.Proofs.Ytngpmlolpigeoaa
open Go.RowKit Go.Maps
set_option linter.unusedVariables false
set_option linter.unusedSimpArgs false
theorem Le.Due.none {T : Le.Tab} {n : Int} {ss : List (List UInt8)} (h : Le.Due T n ss) (h0 : ∀ x, Le.isDue T n x = false) : ss = [] := by
  cases ss with
  | nil => rfl
  | cons a l =>
    have := (h.mem ⟨a.toArray⟩).1 (by rw [toB_mk]; simp)
    rw [h0] at this
    cases this
theorem Le.Due.one {T : Le.Tab} {n : Int} {ss : List (List UInt8)} (h : Le.Due T n ss) (p : ByteArray) (h1 : Le.isDue T n p = true) (h0 : ∀ x, Le.isDue T n x = true → x = p) : ss = [toB p] := by
  have hm : ∀ a ∈ ss, a = toB p := fun a ha => by
    have := h0 ⟨a.toArray⟩ ((h.mem ⟨a.toArray⟩).1 (by rw [toB_mk]; exact ha))
    rw [← this, toB_mk]
  have hp := (h.mem p).2 h1
  have hr := h.rises
  cases ss with
  | nil => cases hp
  | cons a l =>
    rw [hm a (by simp)] at hr ⊢
    cases l with
    | nil => rfl
    | cons b l =>
      rw [hm b (by simp)] at hr
      exact absurd ((List.pairwise_cons.1 hr).1 _ (by simp)) (List.lt_irrefl _)
theorem DuePost.noneDue {w w' : World} {T : Le.Tab} {n : Int} {e : Ending} (h : DuePost w T n e w') (h0 : ∀ x, Le.isDue T n x = false) : ∃ A c, e = .returned (.slice A 0 c) ∧ Fr w w' (fun _ => False) := by
  obtain ⟨ss, v, rfl, hd, ho, hf⟩ := h
  obtain rfl := hd.none h0
  obtain ⟨A, c, rfl⟩ := own_slice ho
  exact ⟨A, c, rfl, hf⟩
theorem DuePost.oneDue {w w' : World} {T : Le.Tab} {n : Int} {e : Ending} (h : DuePost w T n e w') (p : ByteArray) (h1 : Le.isDue T n p = true) (h0 : ∀ x, Le.isDue T n x = true → x = p) :
    ∃ g c, e = .returned (.slice (some ⟨g, 0, none⟩) 1 c) ∧ w.heap.size ≤ g ∧ g < w'.heap.size ∧ w'.cell? ⟨g, 0, none⟩ = some (.string p) ∧ Fr w w' (fun _ => False) := by
  obtain ⟨ss, v, rfl, hd, ho, hf⟩ := h
  obtain rfl := hd.one p h1 h0
  obtain ⟨g, c, rfl, hg, hl, hC⟩ := own_some ho (by simp)
  refine ⟨g, c, rfl, hg, hl, ?_, hf⟩
  have := (hC.get (j := 0) rfl).1
  rw [this]
  show some (Value.string ⟨p.data.toList.toArray⟩) = _
  rw [Array.toArray_toList]
theorem TabTo.frame {w w' : World} {t m : Nat} {L : List ByteArray} {T : Le.Tab} (h : TabTo w t m L T w') {B : Nat} (hm : B ≤ m) (hB : B ≤ w.heap.size) : Below B w w' := h.2.below (fun k _ e => by have : k = m := e; omega) hB
theorem fr_below {w w' : World} (h : Fr w w' (fun _ => False)) (B : Nat) : Below B w w' ∨ True := .inr trivial
theorem frNone_below {w w' : World} (h : Fr w w' (fun _ => False)) {B : Nat} (hB : B ≤ w.heap.size) : Below B w w' := h.below (fun k _ e => e.elim) hB
def spkP : ByteArray := ⟨#[47, 97]⟩
def spkT : Le.Tab := (⟨3, fun _ => none⟩ : Le.Tab).put spkP 1 10
theorem spkT_g (x : ByteArray) : spkT.g x = if x = spkP then some (1, 10) else none := rfl
theorem spk13a : Le.isDue spkT 13 spkP = true := by unfold Le.isDue; rw [spkT_g]; simp; decide
theorem spk13b (x : ByteArray) (h : Le.isDue spkT 13 x = true) : x = spkP := by
  unfold Le.isDue at h
  rw [spkT_g] at h
  by_cases e : x = spkP
  · exact e
  · rw [if_neg e] at h; cases h
theorem spk12 (x : ByteArray) : Le.isDue spkT 12 x = false := by
  unfold Le.isDue
  rw [spkT_g]
  by_cases e : x = spkP
  · rw [if_pos e]; decide
  · rw [if_neg e]
theorem spkP_ok : spkP.size ≤ maxLen := by decide
set_option maxRecDepth 20000 in
set_option maxHeartbeats 2000000 in
theorem speaks_any (w : World) : Calls Try.prog 7 #[] w fun e w' => e = .returned (.bool true) ∧ Below w.heap.size w w' := by
  go_enter Try.func7, Try.ntmps7
  go_wp2_with fail
  refine (new_c 3 w).mono ?_
  rintro _ w1 ⟨t, m, rfl, hT, ht, hm, hb⟩
  rw [show clamp 3 1 = 3 from by decide] at hT
  have HT := Lib.hid hT
  have HM := Lib.hid (And.intro ht hm)
  have HB := Lib.hid hb
  clear hT ht hm hb
  go_wp2_with fail
  refine (grant_c t m [] ⟨3, fun _ => none⟩ spkP spkP_ok 1 10 w1 HT.out (by decide)).mono ?_
  rintro _ w2 ⟨rfl, h2⟩
  rw [show clamp 10 0 = 10 from by decide] at h2
  have HT2 : Hid (TabAt w2 t m (Le.ins spkP []) spkT) := Lib.hid h2.1
  have HB2 := Lib.hid (HB.out.trans (h2.frame HM.out.2 HB.out.size))
  clear h2
  have HL : Hid ((Le.ins spkP []).length < 8796093022208) := Lib.hid (by decide)
  go_wp2_with fail
  refine (due_c t m _ spkT 13 w2 HT2.out HL.out).mono ?_
  rintro _ w3 h3
  rw [show clamp 13 0 = 13 from by decide] at h3
  obtain ⟨g, c, rfl, hg, hgl, hc, hf⟩ := h3.oneDue spkP spk13a spk13b
  have HT3 := Lib.hid (HT2.out.fr hf (fun e => e) (fun e => e))
  have HB3 := Lib.hid (HB2.out.trans (frNone_below hf HB2.out.size))
  have HC := Lib.hid (And.intro hgl hc)
  clear h3 hg hgl hc hf
  go_wp2_with fail
  refine (due_c t m _ spkT 12 w3 HT3.out HL.out).mono ?_
  rintro _ w4 h4
  rw [show clamp 12 0 = 12 from by decide] at h4
  obtain ⟨A, c4, rfl, hf⟩ := h4.noneDue spk12
  have c0 : w4.cell? ⟨g, 0, none⟩ = some (.string ⟨#[47, 97]⟩) := (hf.cell (p := ⟨g, 0, none⟩) HC.out.1 (fun e => e)).trans HC.out.2
  have HB4 := Lib.hid (HB3.out.trans (frNone_below hf HB3.out.size))
  clear h4 hf
  go_wp2
  go_ret
  exact ⟨rfl, HB4.out⟩
end Go.Proofs.Ytngpmlolpigeoaa
