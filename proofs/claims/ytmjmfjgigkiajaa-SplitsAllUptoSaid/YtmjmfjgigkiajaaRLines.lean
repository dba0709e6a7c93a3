/- mahoutref18.Lines. -/
import Derived.Test.YtmjmfjgigkiajaaKit
import Derived.Test.YtmjmfjgigkiajaaPLines
namespace Go.Proofs.Ytmjmfjgigkiajaa
open Go.RowKit
set_option linter.unusedVariables false
set_option linter.unusedSimpArgs false
theorem int_info : (Try.prog.info? 3).map (fun i => (i.zero, i.size, i.bytes)) = some (some (.int .i64 0), 1, 8) := by kernel_rfl
theorem str_info : (Try.prog.info? 9).map (fun i => (i.zero, i.size, i.bytes)) = some (some (.string ⟨#[]⟩), 1, 16) := by kernel_rfl
theorem own_apart {w : World} {b1 b2 e1 e2 s1 s2 n1 n2 : Nat} {v1 v2 : Value} {xs1 xs2 : List Value} (h1 : w.ownsRow b1 e1 s1 v1 n1 xs1) (h2 : w.ownsRow b2 e2 s2 v2 n2 xs2) (hne : e1 ≠ e2) : v1.ownBlock = none ∨ v1.ownBlock ≠ v2.ownBlock := by
  rcases h1.2 with ⟨rfl, _⟩ | ⟨g1, cap1, cur1, rfl, _, hh1, _⟩
  · exact Or.inl rfl
  · rcases h2.2 with ⟨rfl, _⟩ | ⟨g2, cap2, cur2, rfl, _, hh2, _⟩
    · exact Or.inr (by simp [Value.ownBlock])
    · refine Or.inr fun e => ?_
      obtain rfl : g1 = g2 := by simpa [Value.ownBlock] using e
      rw [hh1] at hh2
      simp at hh2
      exact hne hh2.2
def lnAts (P : List (Nat × List UInt8)) : List Value := P.map fun p => .int .i64 (p.1 : Int)
def lnTxts (P : List (Nat × List UInt8)) : List Value := P.map fun p => .string ⟨p.2.toArray⟩
theorem lnAts_app (a b : List (Nat × List UInt8)) : lnAts (a ++ b) = lnAts a ++ lnAts b := List.map_append ..
theorem lnTxts_app (a b : List (Nat × List UInt8)) : lnTxts (a ++ b) = lnTxts a ++ lnTxts b := List.map_append ..
theorem ext_txt (s : ByteArray) (a b : Nat) : (⟨((s.data.toList.drop a).take (b - a)).toArray⟩ : ByteArray) = s.extract a b := by
  apply ByteArray.ext
  apply Array.toList_inj.1
  show (s.data.toList.drop a).take (b - a) = _
  simp
set_option maxHeartbeats 2000000 in
theorem rlines_c (s : ByteArray) (hs : s.size ≤ 1048576) (w : World) :
    Calls Try.prog 11 #[.string s] w fun e w' => ∃ vA vL, e = .returned (.tuple #[vA, vL]) ∧ w'.ownsRow w.heap.size 3 1 vA (Ln.lines 0 s.data.toList).length (lnAts (Ln.lines 0 s.data.toList)) ∧ w'.ownsRow w.heap.size 9 1 vL (Ln.lines 0 s.data.toList).length (lnTxts (Ln.lines 0 s.data.toList)) ∧ Below w.heap.size w w' := by
  have HLEN : Hid (s.data.toList.length = s.size) := Lib.hid (by simp)
  have HLL : Hid ((Ln.lines 0 s.data.toList).length ≤ s.size) := Lib.hid (by rw [← HLEN.out]; exact Ln.lines_len _ 0 _ (Nat.le_refl _))
  go_enter Try.func11, Try.ntmps11
  go_wp2
  go_loopg [4, 5, 6, 7] s.size (fun g v4 v5 v6 v7 wr => ∃ (i fr : Nat) (vA vL : Value) (P : List (Nat × List UInt8)), v4 = vA ∧ v5 = vL ∧ v6 = .int .i64 fr ∧ v7 = .int .i64 i ∧ fr ≤ i ∧ i ≤ s.size ∧ s.size ≤ g + i ∧
    Hid (∀ j, fr ≤ j → j < i → s.data.toList[j]? ≠ some 10) ∧ Hid (Below w.heap.size w wr) ∧ Hid (wr.ownsRow w.heap.size 3 1 vA P.length (lnAts P)) ∧ Hid (wr.ownsRow w.heap.size 9 1 vL P.length (lnTxts P)) ∧ Hid (P ++ Ln.lines fr (s.data.toList.drop fr) = Ln.lines 0 s.data.toList))
  case atStart => exact ⟨0, 0, _, _, [], rfl, rfl, rfl, rfl, Nat.le_refl _, Nat.zero_le _, by omega, Lib.hid (fun j _ h => by omega), Lib.hid (Below.refl _ _), Lib.hid (World.ownsRow_nil _ _ _ _), Lib.hid (World.ownsRow_nil _ _ _ _), Lib.hid rfl⟩
  case round =>
    obtain ⟨i, fr, vA, vL, P, rfl, rfl, rfl, rfl, hfi, his, hg, HNO, HBW, HA, HL, HE⟩ := hrel
    have HPL : Hid (P.length ≤ 1048576) := Lib.hid (by
      have h1 := congrArg List.length HE.out
      rw [List.length_append] at h1
      have := HLL.out
      omega)
    have HSM : ∀ q, fr + q ≤ s.size → fr < s.size → (∀ j, j < q → s.data.toList[fr + j]? ≠ some 10) → (fr + q < s.size → s.data.toList[fr + q]? = some 10) → (P ++ [(fr, (s.data.toList.drop fr).take q)]) ++ Ln.lines (fr + (q + 1)) (s.data.toList.drop (fr + (q + 1))) = Ln.lines 0 s.data.toList := fun q hq hf h1 h2 => by
      have hd : s.data.toList.drop fr ≠ [] := fun h => by
        have := congrArg List.length h
        rw [List.length_drop, HLEN.out] at this
        simp at this; omega
      have hl : Ln.len (s.data.toList.drop fr) = q := Ln.len_at _ _ (by rw [List.length_drop, HLEN.out]; omega) (fun j hj => by rw [List.getElem?_drop]; exact h1 j hj) (fun hk => by rw [List.length_drop, HLEN.out] at hk; rw [List.getElem?_drop]; exact h2 (by omega))
      rw [← HE.out, Ln.lines_ne fr hd, hl, List.drop_drop]
      simp
    have HSM := Lib.hid HSM
    have ia : ((i : Int)).toNat = i := by omega
    have pa : (0 : Int) ≤ (i : Int) := by omega
    by_cases hlt : i < s.size
    · have hltz : (i : Int) < (s.size : Int) := by omega
      have hget : s.data.toList[i]? = some s[i] := Lib.data_getElem? s i hlt
      by_cases hnl : s[i] = 10
      · have hb1 : ((s[i].toNat : Int) == 10) = true := by rw [hnl]; rfl
        have HNX := Lib.hid (HSM.out (i - fr) (by omega) (by omega) (fun j hj => HNO.out _ (by omega) (by omega)) (fun _ => by rw [show fr + (i - fr) = i by omega, hget, hnl]))
        have HNL := Lib.hid hnl
        clear hget hnl
        go_wp2_with (first
          | (at_builtin
             refine wpList_app rfl _ _ 25 rfl w.heap.size 3 _ 1 8 Try.underlying25 int_info rfl (by decide) _ P.length _ rfl HA.out _ _ 1 1 rfl rfl rfl (by have := HPL.out; unfold maxLen; omega) (by have := HPL.out; omega) (by exact HBW.out.size) ?_
             intro v' w' hO hG hN
             have HL2 := Lib.hid (HL.out.kept hG.out (own_apart HL.out HA.out (by decide)))
             have HB2 := Lib.hid (below_grown HBW.out HBW.out.size hG.out (own_base HA.out))
             obtain ⟨A, cc, rfl⟩ := own_slice hO.out
             have HO1 := hO)
          | (at_builtin
             refine wpList_app rfl _ _ 32 rfl w.heap.size 9 _ 1 16 Try.underlying32 str_info rfl (by decide) _ P.length _ rfl HL2.out _ _ 1 1 rfl rfl rfl (by have := HPL.out; unfold maxLen; omega) (by have := HPL.out; omega) (by exact HB2.out.size) ?_
             intro v'' w'' hO2 hG2 hN2
             have HA3 := Lib.hid (HO1.out.kept hG2.out (own_apart HO1.out HL2.out (by decide)))
             have HB3 := Lib.hid (below_grown HB2.out HB2.out.size hG2.out (own_base HL2.out))
             obtain ⟨A2, cc2, rfl⟩ := own_slice hO2.out))
        go_roundg (s.size - (i + 1))
        case measure => omega
        case rel =>
          refine ⟨i + 1, i + 1, _, _, P ++ [(fr, (s.data.toList.drop fr).take (i - fr))], rfl, rfl, by first | rfl | go_num, by first | rfl | go_num, Nat.le_refl _, by omega, by omega, Lib.hid (fun j h1 h2 => by omega), HB3, Lib.hid ?_, Lib.hid ?_, Lib.hid ?_⟩
          · rw [lnAts_app, List.length_append]; exact HA3.out
          · rw [lnTxts_app, List.length_append, show lnTxts [(fr, (s.data.toList.drop fr).take (i - fr))] = [.string (s.extract fr i)] by unfold lnTxts; rw [List.map_cons, List.map_nil, ext_txt]]; exact hO2.out
          · have h := HNX.out
            rw [show fr + (i - fr + 1) = i + 1 by omega] at h
            exact h
      · have hb1 : ((s[i].toNat : Int) == 10) = false := by
          have : s[i].toNat ≠ 10 := fun h => hnl (UInt8.toNat_inj.1 (by simpa using h))
          simp; omega
        have HGET := Lib.hid hget
        have HNL := Lib.hid hnl
        clear hget hnl
        go_wp2
        go_roundg (s.size - (i + 1))
        case measure => omega
        case rel =>
          refine ⟨i + 1, fr, _, _, P, rfl, rfl, rfl, by first | rfl | go_num, by omega, by omega, by omega, Lib.hid (fun j h1 h2 => ?_), HBW, HA, HL, HE⟩
          rcases Nat.lt_or_ge j i with h | h
          · exact HNO.out j h1 h
          · obtain rfl : j = i := by omega
            rw [HGET.out]
            intro e
            exact HNL.out (Option.some.inj e)
    · have hltz : ¬ (i : Int) < (s.size : Int) := by omega
      by_cases hf : fr < s.size
      · have hfz : (fr : Int) < (s.size : Int) := by omega
        have HNX := Lib.hid (HSM.out (s.size - fr) (by omega) hf (fun j hj => HNO.out _ (by omega) (by omega)) (fun h => by omega))
        go_wp2_with (first
          | (at_builtin
             refine wpList_app rfl _ _ 25 rfl w.heap.size 3 _ 1 8 Try.underlying25 int_info rfl (by decide) _ P.length _ rfl HA.out _ _ 1 1 rfl rfl rfl (by have := HPL.out; unfold maxLen; omega) (by have := HPL.out; omega) (by exact HBW.out.size) ?_
             intro v' w' hO hG hN
             have HL2 := Lib.hid (HL.out.kept hG.out (own_apart HL.out HA.out (by decide)))
             have HB2 := Lib.hid (below_grown HBW.out HBW.out.size hG.out (own_base HA.out))
             obtain ⟨A, cc, rfl⟩ := own_slice hO.out
             have HO1 := hO)
          | (at_builtin
             refine wpList_app rfl _ _ 32 rfl w.heap.size 9 _ 1 16 Try.underlying32 str_info rfl (by decide) _ P.length _ rfl HL2.out _ _ 1 1 rfl rfl rfl (by have := HPL.out; unfold maxLen; omega) (by have := HPL.out; omega) (by exact HB2.out.size) ?_
             intro v'' w'' hO2 hG2 hN2
             have HA3 := Lib.hid (HO1.out.kept hG2.out (own_apart HO1.out HL2.out (by decide)))
             have HB3 := Lib.hid (below_grown HB2.out HB2.out.size hG2.out (own_base HL2.out))
             obtain ⟨A2, cc2, rfl⟩ := own_slice hO2.out))
        go_ret2
        have e : P ++ [(fr, (s.data.toList.drop fr).take (s.size - fr))] = Ln.lines 0 s.data.toList := by
          have h := HNX.out
          rw [show List.drop (fr + (s.size - fr + 1)) s.data.toList = [] from List.drop_of_length_le (by rw [HLEN.out]; omega), Ln.lines_nil, List.append_nil] at h
          exact h
        refine ⟨_, _, rfl, ?_, ?_, HB3.out⟩
        · rw [← e, lnAts_app, List.length_append]; exact HA3.out
        · rw [← e, lnTxts_app, List.length_append, show lnTxts [(fr, (s.data.toList.drop fr).take (s.size - fr))] = [.string (s.extract fr s.size)] by unfold lnTxts; rw [List.map_cons, List.map_nil, ext_txt]]; exact hO2.out
      · have hfz : ¬ (fr : Int) < (s.size : Int) := by omega
        go_wp2
        go_ret2
        have e : P = Ln.lines 0 s.data.toList := by
          have h := HE.out
          rw [List.drop_of_length_le (by rw [HLEN.out]; omega), Ln.lines_nil, List.append_nil] at h
          exact h
        subst e
        exact ⟨_, _, rfl, HA.out, HL.out, HBW.out⟩
end Go.Proofs.Ytmjmfjgigkiajaa
