/- mahoutlaw01.same, crc.Bad. (Under way.) -/
import Derived.Test.YtmejgkcclgkgjaaDoorChunks2
import Derived.Test.YtmejgkcclgkgjaaDoorPBad
import Derived.Test.YtmejgkcclgkgjaaDoorView
namespace Go.Proofs.YtmejgkcclgkgjaaDoor
open Go.RowKit
set_option linter.unusedVariables false
set_option linter.unusedSimpArgs false
theorem w32_get {l : List Nat} {i x : Nat} (h : l[i]? = some x) : (w32 l)[i]? = some (.int .u32 (x : Int)) := by simp [w32, h]
theorem w32_len (l : List Nat) : (w32 l).length = l.length := by simp [w32]
set_option maxHeartbeats 1000000 in
theorem same_c (p q : Option Addr) (n c n2 c2 : Nat) (xs ys : List Nat) (w : World) (h1 : Vw w 1 p n c (w32 xs)) (h2 : Vw w 1 q n2 c2 (w32 ys)) (hn : n ≤ 140737488355328) (hn2 : n2 ≤ 140737488355328) :
    Calls Tryd.prog 17 #[.slice p n c, .slice q n2 c2] w fun e w' => e = .returned (.bool (decide (xs = ys))) ∧ ∃ k, w' = w.drewN k := by
  have hx : xs.length = n := by have := h1.2.1; rw [w32_len] at this; omega
  have hy : ys.length = n2 := by have := h2.2.1; rw [w32_len] at this; omega
  have H1 := Lib.hid h1
  have H2 := Lib.hid h2
  have HX := Lib.hid hx
  have HY := Lib.hid hy
  have HR : Hid (decide (xs = ys) = decide (xs = ys)) := Lib.hid rfl
  generalize hb : decide (xs = ys) = r at HR ⊢
  have HB := Lib.hid hb
  clear h1 h2 hx hy hb HR
  by_cases hl : n = n2
  · subst hl
    go_enter Tryd.func17, Tryd.ntmps17
    go_wp2
    go_loopg [5] n (fun g v5 wr => ∃ i k : Nat, v5 = .int .i64 i ∧ i ≤ n ∧ n ≤ g + i ∧ wr = w.drewN k ∧ Hid (xs.take i = ys.take i))
    case atStart => exact ⟨0, 0, rfl, Nat.zero_le _, by omega, rfl, Lib.hid rfl⟩
    case round =>
      obtain ⟨i, k, rfl, hi, hg, rfl, HT⟩ := hrel
      by_cases hlt : i < n
      · have hltz : (i : Int) < (n : Int) := by omega
        obtain ⟨x, hx⟩ : ∃ x, xs[i]? = some x := ⟨xs[i]'(by rw [HX.out]; exact hlt), List.getElem?_eq_getElem _⟩
        obtain ⟨y, hy⟩ : ∃ y, ys[i]? = some y := ⟨ys[i]'(by rw [HY.out]; exact hlt), List.getElem?_eq_getElem _⟩
        obtain ⟨b1, o1, rfl, _, c1⟩ := H1.out.at1 (w32_get hx)
        obtain ⟨b2, o2, rfl, _, c2⟩ := H2.out.at1 (w32_get hy)
        have d1 : ∀ j, (w.drewN j).cell? ⟨b1, o1 + i, none⟩ = some (.int .u32 (x : Int)) := fun _ => c1
        have d2 : ∀ j, (w.drewN j).cell? ⟨b2, o2 + i, none⟩ = some (.int .u32 (y : Int)) := fun _ => c2
        have ia : ((i : Int)).toNat = i := by omega
        have pa : (0 : Int) ≤ (i : Int) := by omega
        have HXI := Lib.hid hx
        have HYI := Lib.hid hy
        clear c1 c2 hx hy
        by_cases hxy : x = y
        · subst hxy
          go_wp2
          go_quiet (fail)
          go_wp2
          go_roundg (n - (i + 1))
          case measure => omega
          case rel => exact ⟨i + 1, _, by first | rfl | go_num, by omega, by omega, rfl, Lib.hid (Chk.take_snoc_eq HT.out HXI.out HYI.out)⟩
        · have e1 : ((x : Int) == (y : Int)) = false := by simp; omega
          have e2 : (x == y) = false := by simp; omega
          have HE := Lib.hid hxy
          clear hxy
          go_wp2
          go_quiet (fail)
          go_wp2
          go_ret
          refine ⟨ret_bool ?_, _, by first | rfl | exact World.drewN_drewN ..⟩
          rw [← HB.out]
          symm
          apply decide_eq_false
          intro e
          have h := HXI.out
          rw [e, HYI.out] at h
          cases h
          exact HE.out rfl
      · have hltz : ¬ (i : Int) < (n : Int) := by omega
        have he : i = n := by omega
        have HE := Lib.hid he
        clear he
        go_wp2
        go_ret
        refine ⟨ret_bool ?_, _, rfl⟩
        rw [← HB.out]
        symm
        apply decide_eq_true
        have h := HT.out
        rw [List.take_of_length_le (by rw [HX.out, HE.out]; omega), List.take_of_length_le (by rw [HY.out, HE.out]; omega)] at h
        exact h
  · have e1 : ((n : Int) == (n2 : Int)) = false := by simp; omega
    have e2 : (n == n2) = false := by simp; omega
    have HL := Lib.hid hl
    clear hl
    go_enter Tryd.func17, Tryd.ntmps17
    go_wp2
    go_ret
    refine ⟨ret_bool ?_, 0, rfl⟩
    rw [← HB.out]
    symm
    apply decide_eq_false
    intro e
    have h := HX.out
    rw [e, HY.out] at h
    exact HL.out h.symm
theorem chunks_any (size : Int) (hsz : size ≤ 9223372036854775807) (s : ByteArray) (hs : s.size ≤ 140737488351232) (hs4 : s.size * 4 ≤ 140737488355328) (w : World) (ht : Tab w) :
    Calls Tryd.prog 16 #[.string s, .int .i64 size] w fun e W' => ∃ v, e = .returned v ∧ W'.ownsRow w.heap.size 22 1 v (Chk.sumsZ size s.data.toList).length (w32 (Chk.sumsZ size s.data.toList)) ∧ Below w.heap.size w W' := by
  by_cases h : size < 1
  · have HZ : Hid (Chk.sumsZ size s.data.toList = []) := Lib.hid (by unfold Chk.sumsZ; rw [if_pos h])
    have h1 : decide (size < 1) = true := by simp; omega
    have HH := Lib.hid h
    clear h hs hs4 hsz
    go_enter Tryd.func16, Tryd.ntmps16
    go_wp2
    rw [HZ.out]
    exact bodyPost_ret (results_tmp (by rfl) _ _ _) (by rfl) ⟨_, by rfl, World.ownsRow_nil _ _ _ _, ((Below.refl _ w).alloc (Nat.le_refl _) _).alloc (by simp only [World.size_alloc]; omega) _⟩
  · obtain ⟨m, rfl⟩ : ∃ m : Nat, size = (m : Int) + 1 := ⟨(size - 1).toNat, by omega⟩
    have e : Chk.sumsZ ((m : Int) + 1) s.data.toList = Chk.sums m s.data.toList := by unfold Chk.sumsZ; rw [if_neg h, show ((m : Int) + 1 - 1).toNat = m by omega]
    rw [e]
    exact callsIn_wide.1 (chunks_in m hsz s hs hs4 w ht)
theorem sumsZ_len (size : Int) (l : List UInt8) : (Chk.sumsZ size l).length ≤ l.length := by
  unfold Chk.sumsZ
  split
  · simp
  · exact Chk.sums_len _ l
set_option maxHeartbeats 1000000 in
theorem bad_c (size : Int) (hsz : size ≤ 9223372036854775807) (s : ByteArray) (hs : s.size ≤ 1048576) (p : Option Addr) (n c : Nat) (ys : List Nat) (w : World) (h2 : Vw w 1 p n c (w32 ys)) (hn : n ≤ 140737488355328) (ht : Tab w) :
    Calls Tryd.prog 18 #[.string s, .int .i64 size, .slice p n c] w fun e w' => e = .returned (.int .i64 (Chk.badZ size s.data.toList ys)) ∧ Below w.heap.size w w' := by
  have HC := Lib.hid (chunks_any size hsz s (by omega) (by omega) w ht)
  by_cases h : size < 1
  · have HZ : Hid (Chk.badZ size s.data.toList ys = 0) := Lib.hid (by unfold Chk.badZ; rw [if_pos h])
    have h1 : decide (size < 1) = true := by simp; omega
    clear h hs hsz HC
    go_enter Tryd.func18, Tryd.ntmps18
    go_wp2
    go_ret
    exact ⟨ret_int HZ.out.symm, Below.refl _ _⟩
  · have HZ : Hid (Chk.badZ size s.data.toList ys = Chk.badI (Chk.sumsZ size s.data.toList) ys) := Lib.hid (by unfold Chk.badZ; rw [if_neg h])
    have h1 : decide (size < 1) = false := by simp; omega
    have HM : Hid ((Chk.sumsZ size s.data.toList).length ≤ 1048576) := Lib.hid (by
      have h3 := sumsZ_len size s.data.toList
      have e : s.data.toList.length = s.size := by simp
      omega)
    have hy : ys.length = n := by have := h2.2.1; rw [w32_len] at this; omega
    have HY := Lib.hid hy
    have H2 := Lib.hid h2
    clear h hs hsz h2 hy
    go_enter Tryd.func18, Tryd.ntmps18
    generalize Chk.sumsZ size s.data.toList = xs at HC HZ HM
    rw [HZ.out]
    go_wp2_with fail
    refine HC.out.mono ?_
    rintro e w1 ⟨v, rfl, hO, hB⟩
    obtain ⟨q, c1, rfl, hV⟩ := Vw.of_own hO
    have hm := HM.out
    have HV := Lib.hid hV
    have HB := Lib.hid hB
    have H3 := Lib.hid (H2.out.below hB (Nat.le_refl _))
    clear hV hB hO HC HZ HM
    obtain ⟨m, hml⟩ : ∃ m, m = xs.length := ⟨_, rfl⟩
    rw [← hml] at HV hm ⊢
    have HX := Lib.hid hml.symm
    clear hml
    obtain ⟨L, hL⟩ : ∃ L, L = if n < m then n else m := ⟨_, rfl⟩
    have hLm : L ≤ m := by rw [hL]; split <;> omega
    have hLn : L ≤ n := by rw [hL]; split <;> omega
    have HLO : Hid (L = m ∨ L = n) := Lib.hid (by rw [hL]; split <;> simp)
    by_cases hmn : n < m
    · obtain rfl : n = L := by rw [hL]; simp [hmn]
      clear hL
      have hmz : (n : Int) < (m : Int) := by omega
      go_wp2
      go_loopg [19] n (fun g v19 wr => ∃ i k : Nat, v19 = .int .i64 i ∧ i ≤ n ∧ n ≤ g + i ∧ wr = w1.drewN k ∧ Hid (xs.take i = ys.take i))
      case atStart => exact ⟨0, 0, rfl, Nat.zero_le _, by omega, rfl, Lib.hid rfl⟩
      case round =>
        obtain ⟨i, k, rfl, hi, hg, rfl, HT⟩ := hrel
        by_cases hlt : i < n
        · have hltz : (i : Int) < (n : Int) := by omega
          obtain ⟨x, hx⟩ : ∃ x, xs[i]? = some x := ⟨xs[i]'(by rw [HX.out]; omega), List.getElem?_eq_getElem _⟩
          obtain ⟨y, hy⟩ : ∃ y, ys[i]? = some y := ⟨ys[i]'(by rw [HY.out]; omega), List.getElem?_eq_getElem _⟩
          obtain ⟨b1, o1, rfl, _, k1⟩ := HV.out.at1 (w32_get hx)
          obtain ⟨b2, o2, rfl, _, k2⟩ := H3.out.at1 (w32_get hy)
          have d1 : ∀ j, (w1.drewN j).cell? ⟨b1, o1 + i, none⟩ = some (.int .u32 (x : Int)) := fun _ => k1
          have d2 : ∀ j, (w1.drewN j).cell? ⟨b2, o2 + i, none⟩ = some (.int .u32 (y : Int)) := fun _ => k2
          have ia : ((i : Int)).toNat = i := by omega
          have pa : (0 : Int) ≤ (i : Int) := by omega
          have hin : i < n := by omega
          have him : i < m := by omega
          have HXI := Lib.hid hx
          have HYI := Lib.hid hy
          clear k1 k2 hx hy
          by_cases hxy : x = y
          · subst hxy
            go_wp2
            go_quiet (fail)
            go_wp2
            go_roundg (n - (i + 1))
            case measure => omega
            case rel => exact ⟨i + 1, _, by first | rfl | go_num, by omega, by omega, rfl, Lib.hid (Chk.take_snoc_eq HT.out HXI.out HYI.out)⟩
          · have e1 : ((x : Int) == (y : Int)) = false := by simp; omega
            have e2 : (x == y) = false := by simp; omega
            have HE := Lib.hid hxy
            clear hxy
            go_wp2
            go_quiet (fail)
            go_wp2
            go_ret
            exact ⟨ret_int (Chk.badI_ne HT.out (by rw [HX.out]; exact him) (by rw [HY.out]; exact hin) (by rw [HXI.out, HYI.out]; intro e; cases e; exact HE.out rfl)).symm, below_drewN (below_drewN HB.out _) _⟩
        · have hltz : ¬ (i : Int) < (n : Int) := by omega
          have he : i = n := by omega
          have HE := Lib.hid he
          clear he
          by_cases hq : m = n
          · exfalso; omega
          · have HQ := Lib.hid hq
            have hq1 : ((m : Int) == (n : Int)) = false := by simp; omega
            have hq2 : (m == n) = false := by simp; omega
            clear hq
            go_wp2
            go_ret
            exact ⟨ret_int (by rw [Chk.badI_short HT.out (by rw [HX.out, HE.out]; omega) (by rw [HY.out, HE.out]; omega) (by rw [HX.out, HY.out, HE.out]; first | exact Or.inl rfl | exact Or.inr rfl) (by rw [HX.out, HY.out]; exact HQ.out), HE.out]), below_drewN HB.out _⟩
    · obtain rfl : m = L := by rw [hL]; simp [hmn]
      clear hL
      have hmz : ¬ (n : Int) < (m : Int) := by omega
      go_wp2
      go_loopg [19] m (fun g v19 wr => ∃ i k : Nat, v19 = .int .i64 i ∧ i ≤ m ∧ m ≤ g + i ∧ wr = w1.drewN k ∧ Hid (xs.take i = ys.take i))
      case atStart => exact ⟨0, 0, rfl, Nat.zero_le _, by omega, rfl, Lib.hid rfl⟩
      case round =>
        obtain ⟨i, k, rfl, hi, hg, rfl, HT⟩ := hrel
        by_cases hlt : i < m
        · have hltz : (i : Int) < (m : Int) := by omega
          obtain ⟨x, hx⟩ : ∃ x, xs[i]? = some x := ⟨xs[i]'(by rw [HX.out]; omega), List.getElem?_eq_getElem _⟩
          obtain ⟨y, hy⟩ : ∃ y, ys[i]? = some y := ⟨ys[i]'(by rw [HY.out]; omega), List.getElem?_eq_getElem _⟩
          obtain ⟨b1, o1, rfl, _, k1⟩ := HV.out.at1 (w32_get hx)
          obtain ⟨b2, o2, rfl, _, k2⟩ := H3.out.at1 (w32_get hy)
          have d1 : ∀ j, (w1.drewN j).cell? ⟨b1, o1 + i, none⟩ = some (.int .u32 (x : Int)) := fun _ => k1
          have d2 : ∀ j, (w1.drewN j).cell? ⟨b2, o2 + i, none⟩ = some (.int .u32 (y : Int)) := fun _ => k2
          have ia : ((i : Int)).toNat = i := by omega
          have pa : (0 : Int) ≤ (i : Int) := by omega
          have hin : i < n := by omega
          have him : i < m := by omega
          have HXI := Lib.hid hx
          have HYI := Lib.hid hy
          clear k1 k2 hx hy
          by_cases hxy : x = y
          · subst hxy
            go_wp2
            go_quiet (fail)
            go_wp2
            go_roundg (m - (i + 1))
            case measure => omega
            case rel => exact ⟨i + 1, _, by first | rfl | go_num, by omega, by omega, rfl, Lib.hid (Chk.take_snoc_eq HT.out HXI.out HYI.out)⟩
          · have e1 : ((x : Int) == (y : Int)) = false := by simp; omega
            have e2 : (x == y) = false := by simp; omega
            have HE := Lib.hid hxy
            clear hxy
            go_wp2
            go_quiet (fail)
            go_wp2
            go_ret
            exact ⟨ret_int (Chk.badI_ne HT.out (by rw [HX.out]; exact him) (by rw [HY.out]; exact hin) (by rw [HXI.out, HYI.out]; intro e; cases e; exact HE.out rfl)).symm, below_drewN (below_drewN HB.out _) _⟩
        · have hltz : ¬ (i : Int) < (m : Int) := by omega
          have he : i = m := by omega
          have HE := Lib.hid he
          clear he
          by_cases hq : m = n
          · have HQ := Lib.hid hq
            have hq1 : ((m : Int) == (n : Int)) = true := by simp [hq]
            have hq2 : (m == n) = true := by simp [hq]
            clear hq
            go_wp2
            go_ret
            exact ⟨ret_int (Chk.badI_eq HT.out (by rw [HX.out]; have := HE.out; have := HQ.out; omega) (by rw [HY.out]; have := HE.out; have := HQ.out; omega)).symm, below_drewN HB.out _⟩
          · have HQ := Lib.hid hq
            have hq1 : ((m : Int) == (n : Int)) = false := by simp; omega
            have hq2 : (m == n) = false := by simp; omega
            clear hq
            go_wp2
            go_ret
            exact ⟨ret_int (by rw [Chk.badI_short HT.out (by rw [HX.out, HE.out]; omega) (by rw [HY.out, HE.out]; omega) (by rw [HX.out, HY.out, HE.out]; first | exact Or.inl rfl | exact Or.inr rfl) (by rw [HX.out, HY.out]; exact HQ.out), HE.out]), below_drewN HB.out _⟩
end Go.Proofs.YtmejgkcclgkgjaaDoor
