/- RecordApart: two messages that are not the same have other bytes: the walk. -/
import Derived.Test.YtclalapadpjclaaDoorLetter
import Derived.Test.YtclalapadpjclaaDoorPRecord
namespace Go.Proofs.YtclalapadpjclaaDoor
open Go.RowKit
set_option linter.unusedVariables false
set_option linter.unusedSimpArgs false
theorem letter_cells {w : World} {cs : Array Value} {m : Rec.Msg} (h : RLetter w cs.toList m) : ∃ x0 x1 x2 x3 x4, cs = #[x0, x1, x2, x3, x4] ∧ MsgIs w (.agg #[x0, x1, x2, x3, x4]) m := by
  obtain ⟨pn, cn, pt, ct, hcs, h1, h2⟩ := h.val
  have e : cs = #[.int .i64 m.k, .int .i64 m.c, .int .i64 m.a, .slice pn m.N.length cn, .slice pt m.T.length ct] := by
    apply Array.toList_inj.1; exact hcs
  exact ⟨_, _, _, _, _, e, ⟨pn, cn, pt, ct, rfl, h1, h2⟩⟩
theorem str_neq {a b : ByteArray} (h : a ≠ b) : (a.toList == b.toList) = false ∧ (b.toList == a.toList) = false := by
  rw [ByteArray.toList_eq, ByteArray.toList_eq]
  have h2 : a.data.toList ≠ b.data.toList := fun e => h (by cases a; cases b; simp at e; rw [e])
  exact ⟨beq_eq_false_iff_ne.2 h2, beq_eq_false_iff_ne.2 (fun e => h2 e.symm)⟩
theorem str_empty (l : List UInt8) : (l = [] → (⟨l.toArray⟩ : ByteArray).toList.isEmpty = true) ∧ (l ≠ [] → (⟨l.toArray⟩ : ByteArray).toList.isEmpty = false) := by
  rw [ByteArray.toList_eq]
  refine ⟨fun h => by rw [h]; rfl, fun h => ?_⟩
  cases l with
  | nil => exact absurd rfl h
  | cons a l => rfl
set_option maxRecDepth 20000 in
set_option maxHeartbeats 4000000 in
theorem recordApart_walk (W : World) (csa : Array Value) (a : Rec.Msg) (ha : RLetter W csa.toList a) (ba : lbulk a ≤ 1048576) (csb : Array Value) (b : Rec.Msg) (hb : RLetter W csb.toList b) (bb : lbulk b ≤ 1048576)
    (hL : laidMetH Tryd.prog Rows.recordApartUptoRow.laid W) :
    Calls Tryd.prog 3 #[.agg csa, .agg csb] W fun e w' => e = .returned (.bool true) ∧ Below W.heap.size W w' := by
  have HS := Lib.hid (shtab_of_laid hL)
  obtain ⟨x0, x1, x2, x3, x4, rfl, hma⟩ := letter_cells ha
  obtain ⟨y0, y1, y2, y3, y4, rfl, hmb⟩ := letter_cells hb
  have HWA := Lib.hid ha.wf
  have HWB := Lib.hid hb.wf
  have bl : ∀ m : Rec.Msg, lbulk m ≤ 1048576 → m.N.length ≤ 1048576 ∧ m.T.length ≤ 1048576 := fun m h => by
    unfold lbulk at h
    have : ∀ l : List ByteArray, l.length ≤ (l.map fun s => s.size + 1).sum := by
      intro l
      induction l with
      | nil => exact Nat.le_refl _
      | cons x l ih => rw [List.map_cons, List.sum_cons, List.length_cons]; omega
    have := this m.T
    omega
  have HNA := Lib.hid (bl a ba)
  have HNB := Lib.hid (bl b bb)
  have HLA : Hid ((Rec.body a).length ≤ 140737488355328) := Lib.hid (by have := body_len a ha.wf ha.ss (by have := (bl a ba).2; omega) (by have := (bl a ba).1; omega); omega)
  have HLB : Hid ((Rec.body b).length ≤ 140737488355328) := Lib.hid (by have := body_len b hb.wf hb.ss (by have := (bl b bb).2; omega) (by have := (bl b bb).1; omega); omega)
  have HMA0 := Lib.hid hma
  have HMB0 := Lib.hid hmb
  clear ha hb ba bb hL bl hma hmb
  go_enter Tryd.func3, Tryd.ntmps3
  have hba := (Blk.new W [x0, x1, x2, x3, x4] 25).alloc (.cells #[y0, y1, y2, y3, y4] 25)
  have hbb := Blk.new (W.alloc (.cells #[x0, x1, x2, x3, x4] 25)) [y0, y1, y2, y3, y4] 25
  rw [show (W.alloc (.cells #[x0, x1, x2, x3, x4] 25)).heap.size = W.heap.size + 1 by simp] at hbb
  have hb0 := ((Below.refl _ W).alloc (Nat.le_refl _) (.cells #[x0, x1, x2, x3, x4] 25)).alloc (by simp) (.cells #[y0, y1, y2, y3, y4] 25)
  go_upto_region 1 with (fail)
  generalize (W.alloc (.cells #[x0, x1, x2, x3, x4] 25)).alloc (.cells #[y0, y1, y2, y3, y4] 25) = w0 at hba hbb hb0 ⊢
  have HBA0 := Lib.hid hba
  have HBB0 := Lib.hid hbb
  have HB0 := Lib.hid hb0
  clear hba hbb hb0
  go_wp2_with fail
  refine (recSpeaks_any w0 (HS.out.below HB0.out (Nat.le_refl _))).mono ?_
  rintro e w1 ⟨rfl, hb1⟩
  have HB1 := Lib.hid (below_then HB0.out HB0.out.size hb1)
  have HBA := Lib.hid (HBA0.out.below hb1 HBA0.out.lt)
  have HBB := Lib.hid (HBB0.out.below hb1 HBB0.out.lt)
  clear hb1 HB0 HBA0 HBB0
  have HK : Hid (∀ X Y, Below w1.heap.size w1 X → Below X.heap.size X Y → Below w1.heap.size w1 Y) := Lib.hid fun X Y h k => below_then h h.size k
  have HMA : Hid (∀ X, Below w1.heap.size w1 X → MsgIs X (.agg #[x0, x1, x2, x3, x4]) a) := Lib.hid fun X h => HMA0.out.below (below_then HB1.out HB1.out.size h) (Nat.le_refl _)
  have HMB : Hid (∀ X, Below w1.heap.size w1 X → MsgIs X (.agg #[y0, y1, y2, y3, y4]) b) := Lib.hid fun X h => HMB0.out.below (below_then HB1.out HB1.out.size h) (Nat.le_refl _)
  have HST : Hid (∀ X, Below w1.heap.size w1 X → ShTab X) := Lib.hid fun X h => HS.out.below (below_then HB1.out HB1.out.size h) (Nat.le_refl _)
  have HFIN : Hid (∀ X, Below w1.heap.size w1 X → Below W.heap.size W X) := Lib.hid fun X h => below_then HB1.out HB1.out.size h
  have A0 : ∀ X, Below w1.heap.size w1 X → X.cell? ⟨W.heap.size, 0, none⟩ = some x0 := fun X h => (HBA.out.below h HBA.out.lt).cell 0
  have A1 : ∀ X, Below w1.heap.size w1 X → X.cell? ⟨W.heap.size, 1, none⟩ = some x1 := fun X h => (HBA.out.below h HBA.out.lt).cell 1
  have A2 : ∀ X, Below w1.heap.size w1 X → X.cell? ⟨W.heap.size, 2, none⟩ = some x2 := fun X h => (HBA.out.below h HBA.out.lt).cell 2
  have A3 : ∀ X, Below w1.heap.size w1 X → X.cell? ⟨W.heap.size, 3, none⟩ = some x3 := fun X h => (HBA.out.below h HBA.out.lt).cell 3
  have A4 : ∀ X, Below w1.heap.size w1 X → X.cell? ⟨W.heap.size, 4, none⟩ = some x4 := fun X h => (HBA.out.below h HBA.out.lt).cell 4
  have B0 : ∀ X, Below w1.heap.size w1 X → X.cell? ⟨W.heap.size + 1, 0, none⟩ = some y0 := fun X h => (HBB.out.below h HBB.out.lt).cell 0
  have B1 : ∀ X, Below w1.heap.size w1 X → X.cell? ⟨W.heap.size + 1, 1, none⟩ = some y1 := fun X h => (HBB.out.below h HBB.out.lt).cell 1
  have B2 : ∀ X, Below w1.heap.size w1 X → X.cell? ⟨W.heap.size + 1, 2, none⟩ = some y2 := fun X h => (HBB.out.below h HBB.out.lt).cell 2
  have B3 : ∀ X, Below w1.heap.size w1 X → X.cell? ⟨W.heap.size + 1, 3, none⟩ = some y3 := fun X h => (HBB.out.below h HBB.out.lt).cell 3
  have B4 : ∀ X, Below w1.heap.size w1 X → X.cell? ⟨W.heap.size + 1, 4, none⟩ = some y4 := fun X h => (HBB.out.below h HBB.out.lt).cell 4
  have S0 : Hid (Below w1.heap.size w1 w1.drew) := Lib.hid (below_drewN (Below.refl w1.heap.size w1) 1)
  go_upto_region 3 with (fail)
  go_region_held3 (fun X => Below w1.heap.size w1 X)
    (with_reducible first | exact S0.out | assumption)
    (first
      | (go_at_call 9; with_reducible refine (message_v a (.agg #[x0, x1, x2, x3, x4]) _ (HMA.out _ (by assumption)) (by have := HNA.out; omega) (by have := HNA.out; omega)).mono ?_; rintro _ _ ⟨va, rfl, hm, hb⟩; have HVA := Lib.hid hm; have hs := HK.out _ _ (by assumption) hb; clear hm hb)
      | (go_at_call 9; with_reducible refine (message_v b (.agg #[y0, y1, y2, y3, y4]) _ (HMB.out _ (by assumption)) (by have := HNB.out; omega) (by have := HNB.out; omega)).mono ?_; rintro _ _ ⟨vb, rfl, hm, hb⟩; have HVB := Lib.hid hm; have hs := HK.out _ _ (by assumption) hb; clear hm hb)
      | (go_at_call 8; with_reducible refine (encode_v a HWA.out va _ HVA.out HLA.out (by have := HNA.out; omega) (by have := HNA.out; omega) (HST.out _ (by assumption))).mono ?_; rintro _ _ ⟨rfl, hb⟩; have hs := HK.out _ _ (by assumption) hb; clear hb)
      | (go_at_call 8; with_reducible refine (encode_v b HWB.out vb _ HVB.out HLB.out (by have := HNB.out; omega) (by have := HNB.out; omega) (HST.out _ (by assumption))).mono ?_; rintro _ wz ⟨rfl, hb⟩; have hs := HK.out _ _ (by assumption) hb; have HSX := Lib.hid hs; clear hb))
  clear HVA HVB S0
  have HEA := Lib.hid (Rec.encB_nil a)
  have HEB := Lib.hid (Rec.encB_nil b)
  have HIN : Hid (Rec.encB a ≠ [] → Rec.encB b ≠ [] → (Rec.encB a = Rec.encB b ↔ a = b)) := Lib.hid fun h1 h2 => ⟨fun h => Rec.encB_inj h1 h2 h, fun h => by rw [h]⟩
  have VA := fun v w hv hS => Lib.hid (valid_v a v w hv (by have := HNA.out; omega) (by have := HNA.out; omega) hS)
  have VB := fun v w hv hS => Lib.hid (valid_v b v w hv (by have := HNB.out; omega) (by have := HNB.out; omega) hS)
  generalize Rec.encB a = ea at HEA HIN ⊢
  generalize Rec.encB b = eb at HEB HIN ⊢
  have FA := Lib.hid (str_empty ea)
  have FB := Lib.hid (str_empty eb)
  have FE : Hid ((⟨ea.toArray⟩ : ByteArray) = ⟨eb.toArray⟩ ↔ ea = eb) := Lib.hid ⟨fun h => by simpa using h, fun h => by rw [h]⟩
  generalize (⟨ea.toArray⟩ : ByteArray) = sa at FA FE ⊢
  generalize (⟨eb.toArray⟩ : ByteArray) = sb at FB FE ⊢
  generalize Rec.validB a.k a.N.length a.T.length = ga at HEA VA
  generalize Rec.validB b.k b.N.length b.T.length = gb at HEB VB
  have a0 := A0 _ HSX.out
  have a1 := A1 _ HSX.out
  have a2 := A2 _ HSX.out
  have a3 := A3 _ HSX.out
  have a4 := A4 _ HSX.out
  by_cases hea : ea = []
  · have e1 := FA.out.1 hea
    obtain rfl : ga = false := HEA.out.1 hea
    clear hea
    go_wp2_with fail
    refine (message_v a (.agg #[x0, x1, x2, x3, x4]) _ (HMA.out _ HSX.out) (by have := HNA.out; omega) (by have := HNA.out; omega)).mono ?_
    rintro _ wy ⟨va, rfl, hm, hb⟩
    have HVA := Lib.hid hm
    have HSY := Lib.hid (HK.out _ _ HSX.out hb)
    clear hm hb
    go_wp2_with fail
    refine (VA va wy HVA.out (HST.out _ HSY.out)).out.mono ?_
    rintro _ wv ⟨rfl, hb⟩
    have HSV := Lib.hid (HK.out _ _ HSY.out hb)
    have b0 := B0 _ HSV.out
    have b1 := B1 _ HSV.out
    have b2 := B2 _ HSV.out
    have b3 := B3 _ HSV.out
    have b4 := B4 _ HSV.out
    clear hb
    by_cases heb : eb = []
    · have e2 := FB.out.1 heb
      obtain rfl : gb = false := HEB.out.1 heb
      clear heb
      go_wp2_with fail
      refine (message_v b (.agg #[y0, y1, y2, y3, y4]) _ (HMB.out _ HSV.out) (by have := HNB.out; omega) (by have := HNB.out; omega)).mono ?_
      rintro _ wy2 ⟨vb, rfl, hm, hb⟩
      have HVB := Lib.hid hm
      have HSY2 := Lib.hid (HK.out _ _ HSV.out hb)
      clear hm hb
      go_wp2_with fail
      refine (VB vb wy2 HVB.out (HST.out _ HSY2.out)).out.mono ?_
      rintro _ wv2 ⟨rfl, hb⟩
      have HSV2 := Lib.hid (HK.out _ _ HSY2.out hb)
      clear hb
      go_wp2_with fail
      go_ret
      exact ⟨rfl, HFIN.out _ HSV2.out⟩
    · have e2 := FB.out.2 heb
      obtain rfl : gb = true := by
        cases gb with
        | true => rfl
        | false => exact absurd (HEB.out.2 rfl) heb
      clear heb
      go_wp2_with fail
      refine (message_v b (.agg #[y0, y1, y2, y3, y4]) _ (HMB.out _ HSV.out) (by have := HNB.out; omega) (by have := HNB.out; omega)).mono ?_
      rintro _ wy2 ⟨vb, rfl, hm, hb⟩
      have HVB := Lib.hid hm
      have HSY2 := Lib.hid (HK.out _ _ HSV.out hb)
      clear hm hb
      go_wp2_with fail
      refine (VB vb wy2 HVB.out (HST.out _ HSY2.out)).out.mono ?_
      rintro _ wv2 ⟨rfl, hb⟩
      have HSV2 := Lib.hid (HK.out _ _ HSY2.out hb)
      clear hb
      go_wp2_with fail
      go_ret
      exact ⟨rfl, HFIN.out _ HSV2.out⟩
  · by_cases heb : eb = []
    · have e1 := FA.out.2 hea
      have e2 := FB.out.1 heb
      obtain rfl : gb = false := HEB.out.1 heb
      obtain rfl : ga = true := by
        cases ga with
        | true => rfl
        | false => exact absurd (HEA.out.2 rfl) hea
      clear hea heb
      go_wp2_with fail
      refine (message_v a (.agg #[x0, x1, x2, x3, x4]) _ (HMA.out _ HSX.out) (by have := HNA.out; omega) (by have := HNA.out; omega)).mono ?_
      rintro _ wy ⟨va, rfl, hm, hb⟩
      have HVA := Lib.hid hm
      have HSY := Lib.hid (HK.out _ _ HSX.out hb)
      clear hm hb
      go_wp2_with fail
      refine (VA va wy HVA.out (HST.out _ HSY.out)).out.mono ?_
      rintro _ wv ⟨rfl, hb⟩
      have HSV := Lib.hid (HK.out _ _ HSY.out hb)
      have b0 := B0 _ HSV.out
      have b1 := B1 _ HSV.out
      have b2 := B2 _ HSV.out
      have b3 := B3 _ HSV.out
      have b4 := B4 _ HSV.out
      clear hb
      go_wp2_with fail
      refine (message_v b (.agg #[y0, y1, y2, y3, y4]) _ (HMB.out _ HSV.out) (by have := HNB.out; omega) (by have := HNB.out; omega)).mono ?_
      rintro _ wy2 ⟨vb, rfl, hm, hb⟩
      have HVB := Lib.hid hm
      have HSY2 := Lib.hid (HK.out _ _ HSV.out hb)
      clear hm hb
      go_wp2_with fail
      refine (VB vb wy2 HVB.out (HST.out _ HSY2.out)).out.mono ?_
      rintro _ wv2 ⟨rfl, hb⟩
      have HSV2 := Lib.hid (HK.out _ _ HSY2.out hb)
      clear hb
      go_wp2_with fail
      go_ret
      exact ⟨rfl, HFIN.out _ HSV2.out⟩
    · have e1 := FA.out.2 hea
      have e2 := FB.out.2 heb
      have hiff := FE.out.trans (HIN.out hea heb)
      have HIFF := Lib.hid hiff
      clear hea heb hiff a0 a1 a2 a3 a4 VA VB
      go_upto_region 6 with (fail)
      have S1 : Hid (Below w1.heap.size w1 wz.drew) := Lib.hid (below_drewN HSX.out 1)
      clear HSX
      go_region_held3 (fun X => Below w1.heap.size w1 X)
        (with_reducible first | exact S1.out | assumption)
        (first
          | (go_at_call 9; with_reducible refine (message_v a (.agg #[x0, x1, x2, x3, x4]) _ (HMA.out _ (by assumption)) (by have := HNA.out; omega) (by have := HNA.out; omega)).mono ?_; rintro _ _ ⟨va, rfl, hm, hb⟩; have HVA := Lib.hid hm; have hs := HK.out _ _ (by assumption) hb; clear hm hb)
          | (go_at_call 12; with_reducible refine (doc_v b (.agg #[y0, y1, y2, y3, y4]) _ (HMB.out _ (by assumption))).mono ?_; rintro _ _ ⟨vb, rfl, hm, hb⟩; have HVB := Lib.hid hm; have HVA' := Lib.hid (HVA.out.below hb (Nat.le_refl _)); have hs := HK.out _ _ (by assumption) hb; clear hm hb)
          | (go_at_call 11; with_reducible refine (same_c a b va vb _ HVA'.out HVB.out (by have := HNA.out; omega) (by have := HNA.out; omega) (by have := HNB.out; omega) (by have := HNB.out; omega)).mono ?_; rintro _ wq ⟨rfl, hb⟩; have hs := HK.out _ _ (by assumption) hb; have HSQ := Lib.hid hs; clear hb))
      clear HVA HVA' HVB
      by_cases hab : a = b
      · rw [decide_eq_true hab]
        obtain rfl := HIFF.out.2 hab
        clear hab e1 e2
        go_wp2_with fail
        go_ret
        exact ⟨ret_bool (by simp), HFIN.out _ HSQ.out⟩
      · rw [decide_eq_false hab]
        have hne := str_neq fun h => hab (HIFF.out.1 h)
        clear hab e1 e2
        obtain ⟨n1, n2⟩ := hne
        go_wp2_with fail
        go_ret
        exact ⟨ret_bool (by simp [n1]), HFIN.out _ HSQ.out⟩
end Go.Proofs.YtclalapadpjclaaDoor
