/- The reference's Chunks and Bad. (Under way.) -/
import Derived.Test.YtmejgkcclgkgjaaDoorBad
import Derived.Test.YtmejgkcclgkgjaaDoorCrcRef
namespace Go.Proofs.YtmejgkcclgkgjaaDoor
open Go.RowKit
set_option linter.unusedVariables false
set_option linter.unusedSimpArgs false
set_option maxHeartbeats 1000000 in
theorem rchunks_m (m : Nat) (hm : (m : Int) + 1 ≤ 9223372036854775807) (s : ByteArray) (hs : s.size ≤ 1048576) (w : World) :
    Calls Tryd.prog 15 #[.string s, .int .i64 ((m : Int) + 1)] w fun e W' => ∃ v, e = .returned v ∧ W'.ownsRow w.heap.size 22 1 v (Chk.sums m s.data.toList).length (w32 (Chk.sums m s.data.toList)) ∧ Below w.heap.size w W' := by
  have hm1 : decide ((m : Int) + 1 < 1) = false := by simp; omega
  have HM := Lib.hid hm
  have hlen : s.data.toList.length = s.size := by simp
  have HLEN := Lib.hid hlen
  clear hm hlen
  go_enter Tryd.func15, Tryd.ntmps15
  go_wp2
  go_loopg [5, 6] s.size (fun g v5 v6 wr => ∃ (a : Nat) (v : Value) (P : List Nat), v5 = v ∧ v6 = .int .i64 a ∧ a ≤ s.size ∧ s.size ≤ g + a ∧ Hid (Below w.heap.size w wr) ∧ Hid (wr.ownsRow w.heap.size 22 1 v P.length (w32 P)) ∧ Hid (P ++ Chk.sums m (s.data.toList.drop a) = Chk.sums m s.data.toList))
  case atStart => exact ⟨0, _, [], rfl, rfl, Nat.zero_le _, by omega, Lib.hid (Below.refl _ _), Lib.hid (World.ownsRow_nil _ _ _ _), Lib.hid rfl⟩
  case round =>
    obtain ⟨a, v, P, rfl, rfl, ha, hg, HBW, HO, HE⟩ := hrel
    have HPL : Hid (P.length ≤ 1048576) := Lib.hid (by
      have h1 := congrArg List.length HE.out
      have h2 := Chk.sums_len m s.data.toList
      rw [List.length_append] at h1
      have := HLEN.out
      omega)
    by_cases hlt : a < s.size
    · have hltz : (a : Int) < (s.size : Int) := by omega
      have hd : s.data.toList.drop a ≠ [] := fun h => by
        have := congrArg List.length h
        rw [List.length_drop, HLEN.out] at this
        simp at this; omega
      have HNX : Hid (∀ q : Nat, a + q ≤ s.size → (s.data.toList.drop a).take (m + 1) = (s.data.toList.drop a).take q → (s.data.toList.drop a).drop (m + 1) = (s.data.toList.drop a).drop q →
          (P ++ [Crc.ext 0 ((s.data.toList.drop a).take q)]) ++ Chk.sums m (s.data.toList.drop (a + q)) = Chk.sums m s.data.toList) := Lib.hid (fun q hq h1 h2 => by
        rw [← HE.out]
        unfold Chk.sums
        rw [Chk.chunks_ne m hd, h1, h2, List.drop_drop]
        simp [Nat.add_comm])
      by_cases hq : m + 1 < s.size - a
      · have hq1 : decide ((s.size : Int) - (a : Int) > (m : Int) + 1) = true := by simp; omega
        have hq2 : (m : Int) + 1 < (s.size : Int) - (a : Int) := by omega
        have hcut : a + (m + 1) ≤ s.size := by omega
        have HQ := Lib.hid hq
        clear hd hq
        go_wp2_with (first
          | (go_at_call 12
             refine (refSum_any _ _ (by unfold maxLen; simp; omega)).mono ?_
             rintro e w2 ⟨rfl, rfl⟩)
          | (at_builtin
             refine wpList_app rfl _ _ 30 rfl w.heap.size 22 _ 1 4 Tryd.underlying30 u32_info rfl (by decide) _ P.length _ rfl HO.out _ _ 1 1 rfl rfl rfl (by have := HPL.out; unfold maxLen; omega) (by have := HPL.out; omega) (by exact HBW.out.size) ?_
             intro v' w' hO hG hN
             obtain ⟨A, cc, rfl⟩ := own_slice hO.out))
        go_roundg (s.size - (a + (m + 1)))
        case measure => omega
        case rel =>
          have hob := own_base HO.out
          have hbb := below_grown HBW.out HBW.out.size hG.out hob
          have hN2 := HNX.out (m + 1) hcut rfl rfl
          exact ⟨a + (m + 1), _, _, rfl, by first | rfl | go_num, by omega, by omega, Lib.hid hbb, Lib.hid (by rw [w32_app, List.length_append]; exact hO.out), Lib.hid hN2⟩
      · have hq1 : decide ((s.size : Int) - (a : Int) > (m : Int) + 1) = false := by simp; omega
        have hq2 : ¬ (m : Int) + 1 < (s.size : Int) - (a : Int) := by omega
        have HQ := Lib.hid hq
        have HD := Lib.hid hd
        clear hd hq
        go_wp2_with (first
          | (go_at_call 12
             refine (refSum_any _ _ (by unfold maxLen; simp; omega)).mono ?_
             rintro e w2 ⟨rfl, rfl⟩)
          | (at_builtin
             refine wpList_app rfl _ _ 30 rfl w.heap.size 22 _ 1 4 Tryd.underlying30 u32_info rfl (by decide) _ P.length _ rfl HO.out _ _ 1 1 rfl rfl rfl (by have := HPL.out; unfold maxLen; omega) (by have := HPL.out; omega) (by exact HBW.out.size) ?_
             intro v' w' hO hG hN
             obtain ⟨A, cc, rfl⟩ := own_slice hO.out))
        go_roundg 0
        case measure => omega
        case rel =>
          have hob := own_base HO.out
          have hbb := below_grown HBW.out HBW.out.size hG.out hob
          have hN2 := HNX.out (s.size - a) (by omega) (by rw [List.take_of_length_le (by rw [List.length_drop, HLEN.out]; have := HQ.out; omega), List.take_of_length_le (by rw [List.length_drop, HLEN.out]; omega)]) (by rw [List.drop_of_length_le (by rw [List.length_drop, HLEN.out]; have := HQ.out; omega), List.drop_of_length_le (by rw [List.length_drop, HLEN.out]; omega)])
          rw [show a + (s.size - a) = s.size by omega] at hN2
          exact ⟨s.size, _, _, rfl, by first | rfl | (go_num) | (apply val_int; omega), by omega, by omega, Lib.hid hbb, Lib.hid (by rw [w32_app, List.length_append]; exact hO.out), Lib.hid hN2⟩
    · have hltz : ¬ (a : Int) < (s.size : Int) := by omega
      have he : a = s.size := by omega
      have HE2 := Lib.hid he
      clear he
      go_wp2
      have e : P = Chk.sums m s.data.toList := by
        have h := HE.out
        rw [List.drop_of_length_le (by rw [HLEN.out, HE2.out]; omega)] at h
        unfold Chk.sums at h ⊢
        rw [Chk.chunks_nil] at h
        simpa using h
      subst e
      exact bodyPost_ret (results_tmp (by rfl) _ _ _) (by rfl) ⟨_, by rfl, HO.out, HBW.out⟩
theorem rchunks_any (size : Int) (hsz : size ≤ 9223372036854775807) (s : ByteArray) (hs : s.size ≤ 1048576) (w : World) :
    Calls Tryd.prog 15 #[.string s, .int .i64 size] w fun e W' => ∃ v, e = .returned v ∧ W'.ownsRow w.heap.size 22 1 v (Chk.sumsZ size s.data.toList).length (w32 (Chk.sumsZ size s.data.toList)) ∧ Below w.heap.size w W' := by
  by_cases h : size < 1
  · have HZ : Hid (Chk.sumsZ size s.data.toList = []) := Lib.hid (by unfold Chk.sumsZ; rw [if_pos h])
    have h1 : decide (size < 1) = true := by simp; omega
    have HH := Lib.hid h
    clear h hs hsz
    go_enter Tryd.func15, Tryd.ntmps15
    go_wp2
    rw [HZ.out]
    exact bodyPost_ret (results_tmp (by rfl) _ _ _) (by rfl) ⟨_, by rfl, World.ownsRow_nil _ _ _ _, Below.refl _ _⟩
  · obtain ⟨m, rfl⟩ : ∃ m : Nat, size = (m : Int) + 1 := ⟨(size - 1).toNat, by omega⟩
    have e : Chk.sumsZ ((m : Int) + 1) s.data.toList = Chk.sums m s.data.toList := by unfold Chk.sumsZ; rw [if_neg h, show ((m : Int) + 1 - 1).toNat = m by omega]
    rw [e]
    exact rchunks_m m hsz s hs w
set_option maxHeartbeats 1000000 in
theorem rbad_c (size : Int) (hsz : size ≤ 9223372036854775807) (s : ByteArray) (hs : s.size ≤ 1048576) (p : Option Addr) (n c : Nat) (ys : List Nat) (w : World) (h2 : Vw w 1 p n c (w32 ys)) (hn : n ≤ 140737488355328) :
    Calls Tryd.prog 19 #[.string s, .int .i64 size, .slice p n c] w fun e w' => e = .returned (.int .i64 (Chk.badZ size s.data.toList ys)) ∧ Below w.heap.size w w' := by
  have HC := Lib.hid (rchunks_any size hsz s hs w)
  by_cases h : size < 1
  · have HZ : Hid (Chk.badZ size s.data.toList ys = 0) := Lib.hid (by unfold Chk.badZ; rw [if_pos h])
    have h1 : decide (size < 1) = true := by simp; omega
    clear h hs hsz HC
    go_enter Tryd.func19, Tryd.ntmps19
    go_wp2
    go_ret
    exact ⟨ret_int HZ.out.symm, Below.refl _ _⟩
  · have HZ : Hid (Chk.badZ size s.data.toList ys = Chk.badI (Chk.sumsZ size s.data.toList) ys) := Lib.hid (by unfold Chk.badZ; rw [if_neg h])
    have h1 : decide (size < 1) = false := by simp; omega
    have HM : Hid ((Chk.sumsZ size s.data.toList).length ≤ 1048576) := Lib.hid (by
      have h3 := sumsZ_len size s.data.toList
      have e : s.data.toList.length = s.size := by simp
      omega)
    have hy : ys.length = n := by have := h2.2.1; rw [w32_len] at this; omega
    have HY := Lib.hid hy
    have H2 := Lib.hid h2
    clear h hs hsz h2 hy
    go_enter Tryd.func19, Tryd.ntmps19
    generalize Chk.sumsZ size s.data.toList = xs at HC HZ HM
    rw [HZ.out]
    go_wp2_with fail
    refine HC.out.mono ?_
    rintro e w1 ⟨v, rfl, hO, hB⟩
    obtain ⟨q, c1, rfl, hV⟩ := Vw.of_own hO
    have hm := HM.out
    have HV := Lib.hid hV
    have HB := Lib.hid hB
    have H3 := Lib.hid (H2.out.below hB (Nat.le_refl _))
    clear hV hB hO HC HZ HM
    obtain ⟨m, hml⟩ : ∃ m, m = xs.length := ⟨_, rfl⟩
    rw [← hml] at HV hm ⊢
    have HX := Lib.hid hml.symm
    clear hml
    go_wp2
    go_loopg [8] m (fun g v8 wr => ∃ i k : Nat, v8 = .int .i64 i ∧ i ≤ m ∧ i ≤ n ∧ m ≤ g + i ∧ wr = w1.drewN k ∧ Hid (xs.take i = ys.take i))
    case atStart => exact ⟨0, 0, rfl, Nat.zero_le _, Nat.zero_le _, by omega, rfl, Lib.hid rfl⟩
    case round =>
      obtain ⟨i, k, rfl, him, hin, hg, rfl, HT⟩ := hrel
      have ia : ((i : Int)).toNat = i := by omega
      have pa : (0 : Int) ≤ (i : Int) := by omega
      by_cases hm2 : i < m
      · by_cases hn2 : i < n
        · obtain ⟨x, hx⟩ : ∃ x, xs[i]? = some x := ⟨xs[i]'(by rw [HX.out]; omega), List.getElem?_eq_getElem _⟩
          obtain ⟨y, hy⟩ : ∃ y, ys[i]? = some y := ⟨ys[i]'(by rw [HY.out]; omega), List.getElem?_eq_getElem _⟩
          obtain ⟨b1, o1, rfl, _, k1⟩ := HV.out.at1 (w32_get hx)
          obtain ⟨b2, o2, rfl, _, k2⟩ := H3.out.at1 (w32_get hy)
          have d1 : ∀ j, (w1.drewN j).cell? ⟨b1, o1 + i, none⟩ = some (.int .u32 (x : Int)) := fun _ => k1
          have d2 : ∀ j, (w1.drewN j).cell? ⟨b2, o2 + i, none⟩ = some (.int .u32 (y : Int)) := fun _ => k2
          have f1 : decide (i < m) = true := by simp [hm2]
          have f2 : decide (i < n) = true := by simp [hn2]
          have HXI := Lib.hid hx
          have HYI := Lib.hid hy
          clear k1 k2 hx hy
          by_cases hxy : x = y
          · subst hxy
            go_wp2
            go_quiet (fail)
            go_wp2
            go_roundg (m - (i + 1))
            case measure => omega
            case rel => exact ⟨i + 1, _, by first | rfl | go_num, by omega, by omega, by omega, rfl, Lib.hid (Chk.take_snoc_eq HT.out HXI.out HYI.out)⟩
          · have e1 : ((x : Int) == (y : Int)) = false := by simp; omega
            have e2 : (x == y) = false := by simp; omega
            have e3 : ((i : Int) == (m : Int)) = false := by simp; omega
            have e4 : (i == m) = false := by simp; omega
            have HE := Lib.hid hxy
            clear hxy
            go_wp2
            go_quiet (fail)
            go_wp2
            go_ret
            exact ⟨ret_int (Chk.badI_ne HT.out (by rw [HX.out]; exact hm2) (by rw [HY.out]; exact hn2) (by rw [HXI.out, HYI.out]; intro e; cases e; exact HE.out rfl)).symm, below_drewN HB.out _⟩
        · have f1 : decide (i < m) = true := by simp [hm2]
          have f2 : decide (i < n) = false := by simp; omega
          have e3 : ((i : Int) == (m : Int)) = false := by simp; omega
          have e4 : (i == m) = false := by simp; omega
          go_wp2
          go_quiet (fail)
          go_wp2
          go_ret
          exact ⟨ret_int (Chk.badI_short HT.out (by rw [HX.out]; omega) (by rw [HY.out]; omega) (Or.inr (by rw [HY.out]; omega)) (by rw [HX.out, HY.out]; omega)).symm, below_drewN HB.out _⟩
      · have f1 : decide (i < m) = false := by simp; omega
        have e3 : ((i : Int) == (m : Int)) = true := by simp; omega
        have e4 : (i == m) = true := by simp; omega
        by_cases hn2 : i < n
        · have e5 : ((i : Int) == (n : Int)) = false := by simp; omega
          have e6 : (i == n) = false := by simp; omega
          go_wp2
          go_quiet (fail)
          go_wp2
          go_ret
          exact ⟨ret_int (Chk.badI_short HT.out (by rw [HX.out]; omega) (by rw [HY.out]; omega) (Or.inl (by rw [HX.out]; omega)) (by rw [HX.out, HY.out]; omega)).symm, below_drewN HB.out _⟩
        · have e5 : ((i : Int) == (n : Int)) = true := by simp; omega
          have e6 : (i == n) = true := by simp; omega
          go_wp2
          go_quiet (fail)
          go_wp2
          go_ret
          exact ⟨ret_int (Chk.badI_eq HT.out (by rw [HX.out]; omega) (by rw [HY.out]; omega)).symm, below_drewN HB.out _⟩
end Go.Proofs.YtmejgkcclgkgjaaDoor
