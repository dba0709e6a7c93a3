/- SplitsRecords: the lines that begin in any split of any text. -/
import Derived.Test.YtmjmfjgigkiajaaRecords
import Derived.Test.YtmjmfjgigkiajaaRLines
import Derived.Test.YtmjmfjgigkiajaaView
import Derived.Test.YtmjmfjgigkiajaaSplPlans
namespace Go.Proofs.Ytmjmfjgigkiajaa
open Go.RowKit
set_option linter.unusedVariables false
set_option linter.unusedSimpArgs false
theorem recCells_get : ∀ (l : List (Nat × List UInt8)) (n : Nat) (p : Nat × List UInt8), l[n]? = some p → (recCells l)[n * 2]? = some (.int .i64 (p.1 : Int)) ∧ (recCells l)[n * 2 + 1]? = some (.string ⟨p.2.toArray⟩)
  | [], n, p, h => by simp at h
  | q :: l, 0, p, h => by
    simp at h; subst h
    exact ⟨rfl, rfl⟩
  | q :: l, n + 1, p, h => by
    have ih := recCells_get l n p (by simpa using h)
    have e : recCells (q :: l) = [.int .i64 (q.1 : Int), .string ⟨q.2.toArray⟩] ++ recCells l := rfl
    rw [e, show (n + 1) * 2 = n * 2 + 2 by omega, show n * 2 + 2 + 1 = n * 2 + 1 + 2 by omega]
    exact ih
theorem cut_at {lo hi : Int} {L : List (Nat × List UInt8)} {i : Nat} {p : Nat × List UInt8} (h : L[i]? = some p) (h1 : lo ≤ (p.1 : Int)) (h2 : (p.1 : Int) < hi) :
    (Ln.cut lo hi L)[(Ln.cut lo hi (L.take i)).length]? = some p ∧ (Ln.cut lo hi (L.take (i + 1))).length = (Ln.cut lo hi (L.take i)).length + 1 := by
  have hl := (List.getElem?_eq_some_iff.1 h).1
  have e : L = L.take i ++ p :: L.drop (i + 1) := by
    have h3 : L.drop i = p :: L.drop (i + 1) := by
      rw [List.drop_eq_getElem_cons hl]
      rw [List.getElem?_eq_getElem hl] at h
      rw [Option.some.inj h]
    rw [← h3, List.take_append_drop]
  refine ⟨?_, ?_⟩
  · conv => lhs; arg 1; rw [e]
    rw [Ln.cut_app, List.getElem?_append_right (Nat.le_refl _), Nat.sub_self]
    have : Ln.cut lo hi (p :: L.drop (i + 1)) = p :: Ln.cut lo hi (L.drop (i + 1)) := by
      unfold Ln.cut
      rw [List.filter_cons_of_pos (by simp [h1, h2])]
    rw [this]; rfl
  · rw [List.take_add_one, h, Ln.cut_app, List.length_append, show (some p).toList = [p] from rfl, Ln.cut_one, if_pos ⟨h1, h2⟩]; rfl
theorem cut_skip {lo hi : Int} {L : List (Nat × List UInt8)} {i : Nat} {p : Nat × List UInt8} (h : L[i]? = some p) (h1 : ¬ (lo ≤ (p.1 : Int) ∧ (p.1 : Int) < hi)) :
    (Ln.cut lo hi (L.take (i + 1))).length = (Ln.cut lo hi (L.take i)).length := by
  rw [List.take_add_one, h, Ln.cut_app, List.length_append, show (some p).toList = [p] from rfl, Ln.cut_one, if_neg h1]; rfl
theorem records_c (lo hi : Int) (s : ByteArray) (hs : s.size ≤ 1048576) (w : World) :
    Calls Try.prog 10 #[.string s, .agg #[.int .i64 lo, .int .i64 hi]] w fun e W' => ∃ v, e = .returned v ∧ W'.ownsRow w.heap.size 36 2 v (Ln.cut lo hi (Ln.lines 0 s.data.toList)).length (recCells (Ln.cut lo hi (Ln.lines 0 s.data.toList))) ∧ Below w.heap.size w W' :=
  callsIn_wide.1 (records_in lo hi s hs w)
theorem Vw.at2 {w : World} {n c : Nat} {p : Option Addr} {xs : List Value} (h : Vw w 2 p n c xs) {i : Nat} {u v : Value} (hu : xs[i * 2]? = some u) (hv : xs[i * 2 + 1]? = some v) : ∃ b off, p = some ⟨b, off, none⟩ ∧ b < w.heap.size ∧ w.cell? ⟨b, off + i * 2, none⟩ = some u ∧ w.cell? ⟨b, off + i * 2 + 1, none⟩ = some v := by
  have hl := (List.getElem?_eq_some_iff.1 hv).1
  obtain ⟨b, off, e, hlt, hc⟩ := h.2.2 (by have := h.2.1; omega)
  exact ⟨b, off, e, hlt, hc _ u hu, by have := hc _ v hv; rwa [← Nat.add_assoc] at this⟩
set_option maxHeartbeats 2000000 in
theorem splitsRecords_walk (s : ByteArray) (hs : s.size ≤ 1048576) (lo : Int) (w1 : (Lit.int .i64 lo).wf = true) (hi : Int) (w2 : (Lit.int .i64 hi).wf = true) (W : World) :
    Calls Try.prog 5 #[.string s, .int .i64 lo, .int .i64 hi] W fun e w' => e = .returned (.bool true) ∧ Below W.heap.size W w' := by
  clear w1 w2
  have HS := Lib.hid hs
  have HLL : Hid ((Ln.lines 0 s.data.toList).length ≤ 1048576) := Lib.hid (by
    have h := Ln.lines_len _ 0 s.data.toList (Nat.le_refl _)
    have h2 : s.data.toList.length = s.size := by simp
    omega)
  have HR := fun w => Lib.hid (records_c lo hi s hs w)
  have HL := fun w => Lib.hid (rlines_c s hs w)
  have HCL : Hid ((Ln.cut lo hi (Ln.lines 0 s.data.toList)).length ≤ (Ln.lines 0 s.data.toList).length) := Lib.hid (Ln.cut_len _ _ _)
  generalize Ln.lines 0 s.data.toList = L at HR HL HLL HCL
  obtain ⟨m, hm⟩ : ∃ m, m = L.length := ⟨_, rfl⟩
  obtain ⟨c, hc⟩ : ∃ c, c = (Ln.cut lo hi L).length := ⟨_, rfl⟩
  rw [← hm] at HL HLL HCL
  rw [← hc] at HR HCL
  have hm2 := HLL.out
  have hc2 := HCL.out
  have HM := Lib.hid hm
  have HC := Lib.hid hc
  have HR := Lib.hid HR
  have HL := Lib.hid HL
  clear hm hc hs
  go_enter Try.func5, Try.ntmps5
  go_wp2_with fail
  refine (splSpeaks_any W).mono ?_
  rintro e w0 ⟨rfl, hB0⟩
  have B0 := Lib.hid hB0
  clear hB0
  go_wp2_with fail
  refine ((HR.out w0).out).mono ?_
  rintro e w1 ⟨v1, rfl, hO1, hB1⟩
  obtain ⟨p1, c1, rfl, hV1⟩ := Vw.of_own hO1
  have V1 := Lib.hid hV1
  have B1 := Lib.hid (below_then B0.out B0.out.size hB1)
  clear hO1 hB1 hV1
  go_wp2_with fail
  refine ((HL.out w1).out).mono ?_
  rintro e w2 ⟨vA, vL, rfl, hOA, hOL, hB2⟩
  obtain ⟨pA, cA, rfl, hVA⟩ := Vw.of_own hOA
  obtain ⟨pL, cL, rfl, hVL⟩ := Vw.of_own hOL
  have VA := Lib.hid hVA
  have VL := Lib.hid hVL
  have V2 := Lib.hid (V1.out.below hB2 (Nat.le_refl _))
  have B2 := Lib.hid (below_then B1.out B1.out.size hB2)
  clear hOA hOL hB2 hVA hVL V1 B1 B0
  go_wp2
  go_loopg [10, 11] m (fun g v10 v11 wr => ∃ i n k : Nat, v10 = .int .i64 n ∧ v11 = .int .i64 i ∧ i ≤ m ∧ m ≤ g + i ∧ n ≤ m ∧ wr = w2.drewN k ∧ Hid (n = (Ln.cut lo hi (L.take i)).length))
  case atStart => exact ⟨0, 0, 0, rfl, rfl, Nat.zero_le _, by omega, Nat.zero_le _, rfl, Lib.hid rfl⟩
  case round =>
    obtain ⟨i, n, k, rfl, rfl, hi1, hg, hnm, rfl, HN⟩ := hrel
    have ia : ((i : Int)).toNat = i := by omega
    have pa : (0 : Int) ≤ (i : Int) := by omega
    have ja : ((n : Int)).toNat = n := by omega
    have qa : (0 : Int) ≤ (n : Int) := by omega
    by_cases hlt : i < m
    · have hltz : (i : Int) < (m : Int) := by omega
      obtain ⟨q, hq⟩ : ∃ q, L[i]? = some q := ⟨L[i]'(by rw [← HM.out]; exact hlt), List.getElem?_eq_getElem _⟩
      have gA : (lnAts L)[i]? = some (.int .i64 (q.1 : Int)) := by unfold lnAts; rw [List.getElem?_map, hq]; rfl
      have gL : (lnTxts L)[i]? = some (.string ⟨q.2.toArray⟩) := by unfold lnTxts; rw [List.getElem?_map, hq]; rfl
      obtain ⟨bA, oA, rfl, _, kA⟩ := VA.out.at1 gA
      obtain ⟨bL, oL, rfl, _, kL⟩ := VL.out.at1 gL
      have dA : ∀ j, (w2.drewN j).cell? ⟨bA, oA + i, none⟩ = some (.int .i64 (q.1 : Int)) := fun _ => kA
      have dL : ∀ j, (w2.drewN j).cell? ⟨bL, oL + i, none⟩ = some (.string ⟨q.2.toArray⟩) := fun _ => kL
      clear gA gL kA kL
      by_cases h1 : (q.1 : Int) < lo
      · have d1 : decide ((q.1 : Int) < lo) = true := by simp [h1]
        have HK := Lib.hid (cut_skip (lo := lo) (hi := hi) hq (fun h => by omega))
        clear h1 hq
        go_wp2
        go_roundg (m - (i + 1))
        case measure => omega
        case rel => exact ⟨i + 1, n, _, rfl, by first | rfl | go_num, by omega, by omega, hnm, rfl, Lib.hid (by rw [HK.out]; exact HN.out)⟩
      · have d1 : decide ((q.1 : Int) < lo) = false := by simp; omega
        by_cases h2 : hi ≤ (q.1 : Int)
        · have d2 : decide (hi ≤ (q.1 : Int)) = true := by simp [h2]
          have HK := Lib.hid (cut_skip (lo := lo) (hi := hi) hq (fun h => by omega))
          clear h1 h2 hq
          go_wp2
          go_roundg (m - (i + 1))
          case measure => omega
          case rel => exact ⟨i + 1, n, _, rfl, by first | rfl | go_num, by omega, by omega, hnm, rfl, Lib.hid (by rw [HK.out]; exact HN.out)⟩
        · have d2 : decide (hi ≤ (q.1 : Int)) = false := by simp; omega
          obtain ⟨hat, hnx⟩ := cut_at (lo := lo) (hi := hi) hq (by omega) (by omega)
          rw [← HN.out] at hat hnx
          have hnc : n < c := by
            have := (List.getElem?_eq_some_iff.1 hat).1
            have := HC.out
            omega
          have d3 : decide (c ≤ n) = false := by simp; omega
          obtain ⟨r1, r2⟩ := recCells_get _ _ _ hat
          obtain ⟨b1, o1, rfl, _, k1, k2⟩ := V2.out.at2 r1 r2
          have e1 : ∀ j, (w2.drewN j).cell? ⟨b1, o1 + n * 2, none⟩ = some (.int .i64 (q.1 : Int)) := fun _ => k1
          have e2 : ∀ j, (w2.drewN j).cell? ⟨b1, o1 + n * 2 + 1, none⟩ = some (.string ⟨q.2.toArray⟩) := fun _ => k2
          have HK := Lib.hid hnx
          clear h1 h2 hq hat hnx r1 r2 k1 k2
          go_wp2
          go_quiet (fail)
          go_wp2
          go_roundg (m - (i + 1))
          case measure => omega
          case rel => exact ⟨i + 1, n + 1, _, by first | rfl | go_num, by first | rfl | go_num, by omega, by omega, by omega, rfl, Lib.hid HK.out.symm⟩
    · have hltz : ¬ (i : Int) < (m : Int) := by omega
      have hnc : n = c := by
        have h := HN.out
        rw [List.take_of_length_le (by have := HM.out; omega)] at h
        rw [h]; exact HC.out.symm
      subst hnc
      go_wp2
      go_ret
      exact ⟨rfl, below_drewN B2.out _⟩
end Go.Proofs.Ytmjmfjgigkiajaa
