/- Stable sorting of a []int by a comparing function: stableCmpFunc, SortStableFunc. -/
import Derived.Test.YtgblbhbmeflckaaSort4
namespace Go.Proofs.Ytgblbhbmeflckaa
open Go.RowKit Go.Lib St
set_option linter.unusedVariables false
set_option linter.unusedSimpArgs false
theorem flat_len {lt : Int → Int → Bool} (Xs : List (List Int)) : ((Xs.map (isort lt)).flatten).length = Xs.flatten.length := by
  induction Xs with
  | nil => rfl
  | cons c Xs ih => simp only [List.map_cons, List.flatten_cons, List.length_append, isort_len, ih]
set_option maxHeartbeats 4000000 in
set_option maxRecDepth 20000 in
theorem stable_c (X : List Int) (w0 w : World) (blk cap N g : Nat) (cb : Array Value) (ok : Int → Prop) (cf : Int → Int → Int) (hS : Srt w0 w blk X) (hC : CmpIs w0 blk g cb ok cf) (eg : ∀ args w, (callFunc g args).run Try.prog w = .ok (.enter g args) w) (SW : Swo (ltf cf)) (hok : ∀ x ∈ X, ok x)
    (hN : N = X.length) (hsz : N < 1152921504606846976) :
    Calls Try.prog 38 #[.slice (some ⟨blk, 0, none⟩) N cap, .int .i64 N, .func (.func g) #[] cb] w fun e w' => e = .returned (.tuple #[]) ∧ Srt w0 w' blk (isort (ltf cf) X) := by
  have HS := Lib.hid hS
  have HSY := Lib.hid (sym_c w0 blk cap N g cb ok cf hC eg SW (by omega))
  have HC := Lib.hid hC
  have HW := Lib.hid SW
  have HK := Lib.hid hok
  have HN := Lib.hid hN
  clear hS hC SW hok hN
  generalize hf : isort (ltf cf) X = fin
  have HF := Lib.hid hf
  clear hf
  go_enter Try.func38, Try.ntmps38
  go_wp2
  go_loopg [7, 8] N (fun g1 va vb wr => ∃ (a b : Nat) (Xs : List (List Int)) (V : List Int), va = .int .i64 a ∧ vb = .int .i64 b ∧ a ≤ N ∧ b ≤ N + 20 ∧ N ≤ g1 + a ∧ Hid (b = a + 20) ∧ Hid (X = Xs.flatten ++ V) ∧ Hid (∀ c ∈ Xs, c.length = 20) ∧ Hid (Xs.flatten.length = a) ∧ Hid (Srt w0 wr blk ((Xs.map (isort (ltf cf))).flatten ++ V)))
  case atStart => exact ⟨0, 20, [], X, rfl, rfl, Nat.zero_le _, by omega, by omega, rfl, rfl, Lib.hid (fun _ h => by cases h), rfl, HS⟩
  case round =>
    clear HS
    obtain ⟨a, b, Xs, V, rfl, rfl, haN, hbN, hg, HB, HX, HXs, HA, HS⟩ := hrel
    have hl := flat_len (lt := ltf cf) Xs
    have hNV : N = a + V.length := by have h := HN.out; rw [HX.out, List.length_append] at h; have := HA.out; omega
    have hB := HB.out
    have hA := HA.out
    by_cases hlt : b ≤ N
    · have hltz : (b : Int) ≤ (N : Int) := by omega
      obtain ⟨c, V', rfl, hc⟩ : ∃ c V', V = c ++ V' ∧ c.length = 20 := ⟨V.take 20, V.drop 20, by simp, by simp; omega⟩
      have k1 := insertion_c (Xs.map (isort (ltf cf))).flatten c V' w0 wr blk cap N g cb ok cf (a : Int) (b : Int) (by simpa using HS.out) HC.out eg HW.out (fun x hx => HK.out x (by rw [HX.out]; simp [hx])) (by omega) (by omega) (by rw [List.length_append] at hNV; omega) (by omega)
      have K1 := Lib.hid k1
      have HNV := Lib.hid hNV
      have HCL := Lib.hid hc
      have h20 : a + 20 ≤ N := by omega
      clear k1 hl hNV hA hB hc
      go_wp2_with (go_at_call 41
                   with_reducible refine Calls.mono K1.out ?_
                   rintro _ w2 ⟨rfl, hs2⟩
                   have HS2 := Lib.hid hs2
                   clear hs2)
      go_roundg (N - b)
      case measure => have := HB.out; omega
      case rel => exact ⟨b, b + 20, Xs ++ [c], V', rfl, by first | rfl | go_num | (congr 1; omega), hlt, by omega, by omega, rfl, Lib.hid (by rw [HX.out]; simp), Lib.hid (fun x hx => by
          rcases List.mem_append.1 hx with hx | hx
          · exact HXs.out x hx
          · rcases List.mem_singleton.1 hx with rfl; exact HCL.out), Lib.hid (by have := HA.out; have := HB.out; have := HCL.out; rw [List.flatten_append, List.length_append]; simp only [List.flatten_cons, List.flatten_nil, List.append_nil]; omega), Lib.hid (by simpa using HS2.out)⟩
    · have hltz : ¬ (b : Int) ≤ (N : Int) := by omega
      have k1 := insertion_c (Xs.map (isort (ltf cf))).flatten V [] w0 wr blk cap N g cb ok cf (a : Int) (N : Int) (by simpa using HS.out) HC.out eg HW.out (fun x hx => HK.out x (by rw [HX.out]; simp [hx])) (by omega) (by omega) (by rw [List.length_nil]; omega) (by omega)
      have K1 := Lib.hid k1
      have HV20 : Hid (V.length < 20) := Lib.hid (by omega)
      clear k1 hl hNV hA hB HS hg
      go_wp2_with (go_at_call 41
                   with_reducible refine Calls.mono K1.out ?_
                   rintro _ w2 ⟨rfl, hs2⟩
                   have HS2 := Lib.hid hs2
                   clear hs2)
      go_loopg [6, 7, 8, 9] N (fun g1 vs va vb vm wr => ∃ (s : Nat) (Xs : List (List Int)) (T : List Int), vs = .int .i64 s ∧ 1 ≤ s ∧ s ≤ 20 + 2 * N ∧ N ≤ g1 + s ∧ Hid (X = Xs.flatten ++ T) ∧ Hid (∀ c ∈ Xs, c.length = s) ∧ Hid (T.length < s) ∧ Hid (Srt w0 wr blk ((Xs.map (isort (ltf cf))).flatten ++ isort (ltf cf) T)))
      case atStart => exact ⟨20, Xs, V, rfl, by omega, by omega, by omega, HX, HXs, HV20, Lib.hid (by simpa using HS2.out)⟩
      case round =>
        clear HS2 K1 HV20 HX HXs HA HB hlt hltz haN hbN
        obtain ⟨s, Xs, T, rfl, hs1, hsN, hg, HX, HXs, HT, HS⟩ := hrel
        by_cases hlt : s < N
        · have hltz : (s : Int) < (N : Int) := by omega
          go_wp2
          go_loopg [7, 8] N (fun g2 va vb wr => ∃ (a b : Nat) (Ds Xs : List (List Int)), va = .int .i64 a ∧ vb = .int .i64 b ∧ a ≤ N ∧ b ≤ N + 2 * s ∧ N ≤ g2 + a ∧ Hid (b = a + 2 * s) ∧ Hid (X = Ds.flatten ++ (Xs.flatten ++ T)) ∧ Hid (∀ c ∈ Ds, c.length = 2 * s) ∧ Hid (∀ c ∈ Xs, c.length = s) ∧ Hid (Ds.flatten.length = a) ∧ Hid (Srt w0 wr blk ((Ds.map (isort (ltf cf))).flatten ++ ((Xs.map (isort (ltf cf))).flatten ++ isort (ltf cf) T))))
          case atStart => exact ⟨0, 2 * s, [], Xs, by first | rfl | go_num, by first | rfl | go_num | (congr 1; omega), Nat.zero_le _, by omega, by omega, Lib.hid (by omega), HX, Lib.hid (fun _ h => by cases h), HXs, rfl, HS⟩
          case round =>
            clear HS HX HXs
            obtain ⟨a, b, Ds, Xs, rfl, rfl, haN, hbN, hg2, HB, HX, HDs, HXs, HA, HS⟩ := hrel
            have hl := flat_len (lt := ltf cf) Ds
            have hNV : N = a + (Xs.flatten.length + T.length) := by have h := HN.out; rw [HX.out, List.length_append, List.length_append] at h; have := HA.out; omega
            have hB := HB.out
            have hA := HA.out
            have hT := HT.out
            by_cases hlb : b ≤ N
            · have hlbz : (b : Int) ≤ (N : Int) := by omega
              obtain ⟨c1, c2, Xs', rfl⟩ : ∃ c1 c2 Xs', Xs = c1 :: c2 :: Xs' := by
                match Xs, hNV, HXs with
                | [], hNV, _ => exfalso; simp at hNV; omega
                | [c], hNV, HXs => exfalso; have := HXs.out c (by simp); simp at hNV; omega
                | c1 :: c2 :: Xs', _, _ => exact ⟨c1, c2, Xs', rfl⟩
              have l1 := HXs.out c1 (by simp)
              have l2 := HXs.out c2 (by simp)
              have hNV2 : N = a + s + s + (Xs'.flatten.length + T.length) := by
                simp only [List.flatten_cons, List.length_append] at hNV; omega
              have k1 := HSY.out _ (Ds.map (isort (ltf cf))).flatten (isort (ltf cf) c1) (isort (ltf cf) c2) ((Xs'.map (isort (ltf cf))).flatten ++ isort (ltf cf) T) wr (a : Int) ((a : Int) + (s : Int)) (b : Int) (Nat.le_refl _) (by rw [isort_len]; omega) (by rw [isort_len]; omega) (isort_sorted HW.out _) (isort_sorted HW.out _) (fun x hx => HK.out x (by rw [HX.out]; simp [(isort_mem x c1).1 hx])) (fun x hx => HK.out x (by rw [HX.out]; simp [(isort_mem x c2).1 hx])) (by simpa using HS.out) (by omega) (by rw [isort_len]; omega) (by rw [isort_len, isort_len]; omega) (by rw [List.length_append, isort_len, isort_len, isort_len, hl, flat_len]; omega)
              rw [← isort_append HW.out] at k1
              have K1 := Lib.hid k1
              have L1 := Lib.hid l1
              have L2 := Lib.hid l2
              have hab : a + 2 * s ≤ N := by omega
              clear k1 hl hNV hNV2 hA hB hT l1 l2
              go_wp2_with (go_at_call 42
                           with_reducible refine Calls.mono K1.out ?_
                           rintro _ w2 ⟨rfl, hs2⟩
                           have HS2 := Lib.hid hs2
                           clear hs2)
              go_roundg (N - b)
              case measure => have := HB.out; omega
              case rel => exact ⟨b, b + 2 * s, Ds ++ [c1 ++ c2], Xs', rfl, by first | rfl | go_num | (congr 1; omega), hlb, by omega, by omega, rfl, Lib.hid (by rw [HX.out]; simp), Lib.hid (fun x hx => by
                  rcases List.mem_append.1 hx with hx | hx
                  · exact HDs.out x hx
                  · rcases List.mem_singleton.1 hx with rfl; have := L1.out; have := L2.out; rw [List.length_append]; omega), Lib.hid (fun x hx => HXs.out x (by simp [hx])), Lib.hid (by have := HA.out; have := HB.out; have := L1.out; have := L2.out; rw [List.flatten_append, List.length_append]; simp only [List.flatten_cons, List.flatten_nil, List.append_nil, List.length_append]; omega), Lib.hid (by simpa using HS2.out)⟩
            · have hlbz : ¬ (b : Int) ≤ (N : Int) := by omega
              by_cases hm : a + s < N
              · have hmz : (a : Int) + (s : Int) < (N : Int) := by omega
                obtain ⟨c, rfl⟩ : ∃ c, Xs = [c] := by
                  match Xs, hNV, HXs with
                  | [], hNV, _ => exfalso; simp at hNV; omega
                  | [c], hNV, HXs => exact ⟨c, rfl⟩
                  | c1 :: c2 :: Xs', hNV, HXs =>
                    exfalso
                    have h1 := HXs.out c1 (by simp)
                    have h2 := HXs.out c2 (by simp)
                    simp only [List.flatten_cons, List.length_append] at hNV
                    omega
                have l1 := HXs.out c (by simp)
                have hNV2 : N = a + s + T.length := by
                  simp only [List.flatten_cons, List.flatten_nil, List.length_append, List.length_nil] at hNV; omega
                have k1 := HSY.out _ (Ds.map (isort (ltf cf))).flatten (isort (ltf cf) c) (isort (ltf cf) T) [] wr (a : Int) ((a : Int) + (s : Int)) (N : Int) (Nat.le_refl _) (by rw [isort_len]; omega) (by rw [isort_len]; omega) (isort_sorted HW.out _) (isort_sorted HW.out _) (fun x hx => HK.out x (by rw [HX.out]; simp [(isort_mem x c).1 hx])) (fun x hx => HK.out x (by rw [HX.out]; simp [(isort_mem x T).1 hx])) (by simpa using HS.out) (by omega) (by rw [isort_len]; omega) (by rw [isort_len, isort_len]; omega) (by rw [List.length_nil, isort_len, isort_len, hl]; omega)
                rw [← isort_append HW.out] at k1
                have K1 := Lib.hid k1
                have L1 := Lib.hid l1
                clear k1 hl hNV hNV2 hA hB hT l1
                go_wp2_with (go_at_call 42
                             with_reducible refine Calls.mono K1.out ?_
                             rintro _ w2 ⟨rfl, hs2⟩
                             have HS2 := Lib.hid hs2
                             clear hs2)
                go_roundg (N - 2 * s)
                case measure => omega
                case rel => exact ⟨2 * s, Ds, c ++ T, by first | rfl | go_num | (congr 1; omega), by omega, by omega, by omega, Lib.hid (by rw [HX.out]; simp), HDs, Lib.hid (by have := L1.out; have := HT.out; rw [List.length_append]; omega), Lib.hid (by simpa using HS2.out)⟩
              · have hmz : ¬ (a : Int) + (s : Int) < (N : Int) := by omega
                have HE : ∃ T', Hid (X = Ds.flatten ++ T') ∧ Hid (T'.length < 2 * s) ∧ Hid (Srt w0 wr blk ((Ds.map (isort (ltf cf))).flatten ++ isort (ltf cf) T')) := by
                  match Xs, hNV, HXs, HX, HS with
                  | [], hNV, _, HX, HS => exact ⟨T, Lib.hid (by simpa using HX.out), Lib.hid (by omega), Lib.hid (by simpa using HS.out)⟩
                  | [c], hNV, HXs, HX, HS =>
                    have l1 := HXs.out c (by simp)
                    have h0 : T = [] := List.eq_nil_of_length_eq_zero (by simp at hNV; omega)
                    exact ⟨c, Lib.hid (by rw [HX.out, h0]; simp), Lib.hid (by omega), Lib.hid (by have := HS.out; rw [h0] at this; simpa [isort] using this)⟩
                  | c1 :: c2 :: Xs', hNV, HXs, _, _ =>
                    exfalso
                    have h1 := HXs.out c1 (by simp)
                    have h2 := HXs.out c2 (by simp)
                    simp only [List.flatten_cons, List.length_append] at hNV
                    omega
                obtain ⟨T', HX', HT', HS'⟩ := HE
                clear hl hNV hA hB hT HS HX
                go_wp2
                go_roundg (N - 2 * s)
                case measure => omega
                case rel => exact ⟨2 * s, Ds, T', by first | rfl | go_num | (congr 1; omega), by omega, by omega, by omega, HX', HDs, HT', HS'⟩
        · have hltz : ¬ (s : Int) < (N : Int) := by omega
          have HE : Hid ((Xs.map (isort (ltf cf))).flatten ++ isort (ltf cf) T = fin) := Lib.hid (by
            have hN := HN.out
            have hT := HT.out
            rw [HX.out] at hN
            rw [← HF.out, HX.out]
            match Xs, hN, HXs with
            | [], _, _ => simp
            | [c], hN, HXs =>
              have := HXs.out c (by simp)
              have h0 : T = [] := List.eq_nil_of_length_eq_zero (by simp at hN; omega)
              rw [h0]; simp [isort]
            | c1 :: c2 :: Xs', hN, HXs =>
              exfalso
              have h1 := HXs.out c1 (by simp)
              have h2 := HXs.out c2 (by simp)
              simp only [List.flatten_cons, List.length_append] at hN
              omega)
          go_wp2
          exact ⟨rfl, _, results_none (by rfl) _ _ _, rfl, by rw [← HE.out]; exact HS.out⟩
set_option maxHeartbeats 4000000 in
theorem sortStable_c (X : List Int) (w0 w : World) (blk cap N g : Nat) (cb : Array Value) (ok : Int → Prop) (cf : Int → Int → Int) (hS : Srt w0 w blk X) (hC : CmpIs w0 blk g cb ok cf) (eg : ∀ args w, (callFunc g args).run Try.prog w = .ok (.enter g args) w) (SW : Swo (ltf cf)) (hok : ∀ x ∈ X, ok x)
    (hN : N = X.length) (hsz : N < 1152921504606846976) :
    Calls Try.prog 29 #[.slice (some ⟨blk, 0, none⟩) N cap, .func (.func g) #[] cb] w fun e w' => e = .returned (.tuple #[]) ∧ Srt w0 w' blk (isort (ltf cf) X) := by
  have K := Lib.hid (stable_c X w0 w blk cap N g cb ok cf hS hC eg SW hok hN hsz)
  clear hS hC SW hok hN
  generalize isort (ltf cf) X = fin at K ⊢
  go_enter Try.func29, Try.ntmps29
  go_wp2_with (go_at_call 38
               with_reducible refine Calls.mono K.out ?_
               rintro _ w2 ⟨rfl, hs2⟩
               have HS2 := Lib.hid hs2
               clear hs2)
  exact ⟨rfl, _, results_none (by rfl) _ _ _, rfl, HS2.out⟩
end Go.Proofs.Ytgblbhbmeflckaa
