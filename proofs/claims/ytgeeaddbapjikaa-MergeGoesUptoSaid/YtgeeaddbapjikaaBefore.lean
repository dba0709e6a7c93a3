/- cursor.before. -/
import Derived.Test.YtgeeaddbapjikaaCmpS
import Derived.Deep.RegionHeld3
namespace Go.Proofs.Ytgeeaddbapjikaa
open Go.RowKit
set_option linter.unusedVariables false
set_option linter.unusedSimpArgs false
def befB (ka kb : ByteArray) (ra rb : Int) : Bool := decide (orI (cmpS ka kb) (cmpI ra rb) < 0)
theorem befB_eq (ka kb : ByteArray) (ra rb : Int) : befB ka kb ra rb = (bl ka kb || (!bl kb ka && decide (ra < rb))) := by
  unfold befB orI cmpS cmpI
  cases h1 : bl ka kb
  · cases h2 : bl kb ka
    · by_cases h3 : ra < rb
      · simp [h3]
      · by_cases h4 : rb < ra
        · simp [h3, h4]
        · simp [h3, h4]
    · simp
  · simp
set_option maxHeartbeats 4000000 in
theorem before_c (ra rb : Int) (ba oa la ca bb ob lb cb : Nat) (ka kb : ByteArray) (w : World) (ha : w.cell? ⟨ba, oa, none⟩ = some (.string ka)) (hb : w.cell? ⟨bb, ob, none⟩ = some (.string kb)) (hla : 0 < la) (hlb : 0 < lb) :
    Calls Try.prog 21 #[.agg #[.int .i64 ra, .slice (some ⟨ba, oa, none⟩) la ca], .agg #[.int .i64 rb, .slice (some ⟨bb, ob, none⟩) lb cb]] w fun e w' => e = .returned (.bool (befB ka kb ra rb)) ∧ Below w.heap.size w w' := by
  have B1 := Lib.hid (Blk.new w [.int .i64 ra, .slice (some ⟨ba, oa, none⟩) la ca] 60)
  have B2 := Lib.hid (Blk.new (w.alloc (.cells #[.int .i64 ra, .slice (some ⟨ba, oa, none⟩) la ca] 60)) [.int .i64 rb, .slice (some ⟨bb, ob, none⟩) lb cb] 60)
  have B1' := Lib.hid (B1.out.alloc (.cells #[.int .i64 rb, .slice (some ⟨bb, ob, none⟩) lb cb] 60))
  rw [show (w.alloc (.cells #[.int .i64 ra, .slice (some ⟨ba, oa, none⟩) la ca] 60)).heap.size = w.heap.size + 1 by simp] at B2
  have HB0 := Lib.hid (((Below.refl w.heap.size w).alloc (Nat.le_refl _) (.cells #[.int .i64 ra, .slice (some ⟨ba, oa, none⟩) la ca] 60)).alloc (by simp) (.cells #[.int .i64 rb, .slice (some ⟨bb, ob, none⟩) lb cb] 60))
  have HA := Lib.hid ha
  have HB := Lib.hid hb
  clear ha hb B1
  go_enter Try.func21, Try.ntmps21
  go_upto_region 1 with (fail)
  change Hid (Blk ((w.alloc (.cells #[.int .i64 ra, .slice (some ⟨ba, oa, none⟩) la ca] 60)).alloc (.cells #[.int .i64 rb, .slice (some ⟨bb, ob, none⟩) lb cb] 60)) w.heap.size [.int .i64 ra, .slice (some ⟨ba, oa, none⟩) la ca] 60) at B1'
  change Hid (Blk ((w.alloc (.cells #[.int .i64 ra, .slice (some ⟨ba, oa, none⟩) la ca] 60)).alloc (.cells #[.int .i64 rb, .slice (some ⟨bb, ob, none⟩) lb cb] 60)) (w.heap.size + 1) [.int .i64 rb, .slice (some ⟨bb, ob, none⟩) lb cb] 60) at B2
  generalize (w.alloc (.cells #[.int .i64 ra, .slice (some ⟨ba, oa, none⟩) la ca] 60)).alloc (.cells #[.int .i64 rb, .slice (some ⟨bb, ob, none⟩) lb cb] 60) = w1 at B1' B2 HB0 ⊢
  have A1 : ∀ X, Below w1.heap.size w1 X → X.cell? ⟨w.heap.size, 0, none⟩ = some (.int .i64 ra) := fun X h => (B1'.out.below h B1'.out.lt).cell 0
  have A2 : ∀ X, Below w1.heap.size w1 X → X.cell? ⟨w.heap.size, 1, none⟩ = some (.slice (some ⟨ba, oa, none⟩) la ca) := fun X h => (B1'.out.below h B1'.out.lt).cell 1
  have A3 : ∀ X, Below w1.heap.size w1 X → X.cell? ⟨w.heap.size + 1, 0, none⟩ = some (.int .i64 rb) := fun X h => (B2.out.below h B2.out.lt).cell 0
  have A4 : ∀ X, Below w1.heap.size w1 X → X.cell? ⟨w.heap.size + 1, 1, none⟩ = some (.slice (some ⟨bb, ob, none⟩) lb cb) := fun X h => (B2.out.below h B2.out.lt).cell 1
  have A5 : ∀ X, Below w1.heap.size w1 X → X.cell? ⟨ba, oa, none⟩ = some (.string ka) := fun X h => ((HB0.out.trans (h.mono HB0.out.size)).cell (block_lt_of_cell HA.out)).trans HA.out
  have A6 : ∀ X, Below w1.heap.size w1 X → X.cell? ⟨bb, ob, none⟩ = some (.string kb) := fun X h => ((HB0.out.trans (h.mono HB0.out.size)).cell (block_lt_of_cell HB.out)).trans HB.out
  have S0 : Hid (Below w1.heap.size w1 w1.drew) := Lib.hid (below_drewN (Below.refl w1.heap.size w1) 1)
  have KA : Hid (∀ X o, Below w1.heap.size w1 X → Below w1.heap.size w1 (X.alloc o)) := Lib.hid fun X o h => h.alloc h.size o
  have KD : Hid (∀ X o, Below w1.heap.size w1 X → Below w1.heap.size w1 (X.alloc o).drew) := Lib.hid fun X o h => below_drewN (h.alloc h.size o) 1
  have SR := Lib.hid (Below.refl w1.heap.size w1)
  have Z0 := fun a b => Lib.hid (((Blk.new w1 [.int .i64 a, .int .i64 b] 3).drewN 1).cell 0)
  have Z1 := fun a b => Lib.hid (((Blk.new w1 [.int .i64 a, .int .i64 b] 3).drewN 1).cell 1)
  generalize hcs : cmpS ka kb = cs
  generalize hci : cmpI ra rb = ci
  have HCS := Lib.hid hcs
  have HCI := Lib.hid hci
  clear hcs hci
  go_region_held3 (fun X => Below w1.heap.size w1 X)
    (with_reducible first | exact S0.out | assumption | exact KA.out _ _ (by assumption) | exact KD.out _ _ (by assumption) | exact KD.out _ _ SR.out)
    (first
      | (go_at_call 27; with_reducible refine (cmps_c ka kb _).mono ?_; rintro _ _ ⟨rfl, rfl⟩; rw [HCS.out])
      | (go_at_call 30; with_reducible refine (cmpi_c ra rb _).mono ?_; rintro _ _ ⟨rfl, rfl⟩; rw [HCI.out])
      | (go_at_call 29; refine (or_c cs ci w1.heap.size (w1.alloc (.cells #[.int .i64 cs, .int .i64 ci] 3)).drew (Z0 cs ci).out (Z1 cs ci).out).mono ?_; rintro _ _ ⟨rfl, rfl⟩))
  go_wp2
  go_ret
  exact ⟨by unfold befB; rw [HCS.out, HCI.out]; rfl, HB0.out.trans ((KD.out _ _ SR.out).mono HB0.out.size)⟩
end Go.Proofs.Ytgeeaddbapjikaa
