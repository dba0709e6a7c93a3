/- attempts: the law's own word on a slow map. (Under way.) -/
import Derived.Test.YtkcloaoaldklhaaBoard7
namespace Go.Proofs.Ytkcloaoaldklhaa
open Go.RowKit
set_option linter.unusedVariables false
set_option linter.unusedSimpArgs false
def spk0 : At.Bd := ⟨1, 2, 5, [At.empty, At.empty], 1, false⟩
def spk1 : At.Bd := ⟨1, 2, 5, [⟨[⟨1, 0, 0⟩], 0, 0⟩, At.empty], 1, false⟩
theorem spk0_eq : At.new 1 1 2 5 = spk0 := by rfl
theorem spk0_wf : spk0.Wf := ⟨by decide, by decide, by decide, fun t ht => by
  have : t = At.empty := by simpa [spk0] using ht
  subst this
  exact ⟨by decide, fun a ha => by cases ha⟩⟩
theorem spk1_wf : spk1.Wf := ⟨by decide, by decide, by decide, fun t ht => by
  have : t = ⟨[⟨1, 0, 0⟩], 0, 0⟩ ∨ t = At.empty := by simpa [spk1] using ht
  rcases this with rfl | rfl
  · exact ⟨by decide, fun a ha => by
      have : a = ⟨1, 0, 0⟩ := by simpa using ha
      subst this; decide⟩
  · exact ⟨by decide, fun a ha => by cases ha⟩⟩
theorem spk_r5 : At.ready spk1 2 5 = [0] := by decide
theorem spk_r4 : At.ready spk1 2 4 = [] := by decide
set_option maxRecDepth 20000 in
set_option maxHeartbeats 2000000 in
theorem atSpeaks_any (w : World) : Calls Try.prog 7 #[] w fun e w' => e = .returned (.bool true) ∧ Below w.heap.size w w' := by
  go_enter Try.func7, Try.ntmps7
  go_wp2_with fail
  refine (new_c 1 1 2 5 w).mono ?_
  rintro _ w1 ⟨b, g, vs, rfl, hB, hn, hb, hg, hbel⟩
  rw [spk0_eq] at hB
  have HB := Lib.hid hB
  have HN := Lib.hid hn
  have HL := Lib.hid (And.intro hb hg)
  have HBL := Lib.hid hbel
  clear hB hn hb hg hbel
  go_wp2_with fail
  refine (start_ok b g vs spk0 spk0_wf 0 At.empty rfl rfl rfl (by decide) 1 0 w1 HB.out).mono ?_
  rintro _ w2 ⟨vs2, rfl, hB2, hR⟩
  change BoardAt w2 b g vs2 spk1 at hB2
  obtain ⟨hbl, _⟩ := hR.below HL.out.1 HL.out.2 (fun v hv k hk => by rw [HN.out v hv] at hk; cases hk) HBL.out.size
  have HB2 := Lib.hid hB2
  have HBL2 := Lib.hid (HBL.out.trans hbl)
  clear hB2 hR hbl
  go_wp2_with fail
  have h5 := ready_c b g vs2 spk1 rfl spk1_wf 2 5 w2 HB2.out
  rw [spk_r5] at h5
  refine h5.mono ?_
  rintro _ w3 ⟨v5, rfl, ho5, hb3⟩
  obtain ⟨gv, cp, rfl, _, hlt, hC⟩ := own_some ho5 (by decide)
  have HC := Lib.hid hC
  have HLT := Lib.hid hlt
  have HB3 := Lib.hid (HB2.out.below hb3 (Nat.le_refl _))
  have HBL3 := Lib.hid (below_then HBL2.out HBL2.out.size hb3)
  clear h5 ho5 hC hlt hb3
  have h4 := ready_c b g vs2 spk1 rfl spk1_wf 2 4 w3 HB3.out
  rw [spk_r4] at h4
  have H4 := Lib.hid h4
  clear h4
  simp only [List.length_cons, List.length_nil, Nat.zero_add]
  go_wp2_with fail
  refine H4.out.mono ?_
  rintro _ w4 ⟨v4, rfl, ho4, hb4⟩
  obtain ⟨A4, c4, rfl⟩ := own_slice ho4
  have c0 : w4.cell? ⟨gv, 0, none⟩ = some (.int .i64 0) := (hb4.cell (p := ⟨gv, 0, none⟩) HLT.out).trans (HC.out.get (j := 0) rfl).1
  have HBL4 := Lib.hid (below_then HBL3.out HBL3.out.size hb4)
  clear ho4 hb4
  simp only [List.length_nil]
  go_wp2
  go_ret
  exact ⟨rfl, HBL4.out⟩
end Go.Proofs.Ytkcloaoaldklhaa
