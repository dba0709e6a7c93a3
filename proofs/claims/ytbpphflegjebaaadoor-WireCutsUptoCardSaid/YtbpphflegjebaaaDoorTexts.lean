/- texts of the laws on frames: two lists of texts are the same. -/
import Derived.Test.YtbpphflegjebaaaDoorAll
import Derived.Test.YtbpphflegjebaaaDoorView
namespace Go.Proofs.YtbpphflegjebaaaDoor
open Go.RowKit Go.Sort
set_option linter.unusedVariables false
set_option linter.unusedSimpArgs false
theorem strs_get {l : List ByteArray} {i : Nat} {x : ByteArray} (h : l[i]? = some x) : (strs l)[i]? = some (.string x) := by simp [strs, h]
theorem take_snoc_same {α : Type} {xs ys : List α} {i : Nat} {x : α} (h : xs.take i = ys.take i) (hx : xs[i]? = some x) (hy : ys[i]? = some x) : xs.take (i + 1) = ys.take (i + 1) := by
  rw [List.take_add_one, List.take_add_one, h, hx, hy]
set_option maxHeartbeats 1000000 in
theorem texts_c (p q : Option Addr) (n c n2 c2 : Nat) (xs ys : List ByteArray) (w : World) (h1 : Vw w 1 p n c (strs xs)) (h2 : Vw w 1 q n2 c2 (strs ys)) (hn : n ≤ 140737488355328) (hn2 : n2 ≤ 140737488355328) :
    Calls Tryd.prog 12 #[.slice p n c, .slice q n2 c2] w fun e w' => e = .returned (.bool (decide (xs = ys))) ∧ ∃ k, w' = w.drewN k := by
  have hx : xs.length = n := by have := h1.2.1; rw [strs_len] at this; omega
  have hy : ys.length = n2 := by have := h2.2.1; rw [strs_len] at this; omega
  have H1 := Lib.hid h1
  have H2 := Lib.hid h2
  have HX := Lib.hid hx
  have HY := Lib.hid hy
  have HR : Hid (decide (xs = ys) = decide (xs = ys)) := Lib.hid rfl
  generalize hb : decide (xs = ys) = r at HR ⊢
  have HB := Lib.hid hb
  clear h1 h2 hx hy hb HR
  by_cases hl : n = n2
  · subst hl
    go_enter Tryd.func12, Tryd.ntmps12
    go_wp2
    go_loopg [5] n (fun g v5 wr => ∃ i k : Nat, v5 = .int .i64 i ∧ i ≤ n ∧ n ≤ g + i ∧ wr = w.drewN k ∧ Hid (xs.take i = ys.take i))
    case atStart => exact ⟨0, 0, rfl, Nat.zero_le _, by omega, rfl, Lib.hid rfl⟩
    case round =>
      obtain ⟨i, k, rfl, hi, hg, rfl, HT⟩ := hrel
      by_cases hlt : i < n
      · have hltz : (i : Int) < (n : Int) := by omega
        obtain ⟨x, hx⟩ : ∃ x, xs[i]? = some x := ⟨xs[i]'(by rw [HX.out]; exact hlt), List.getElem?_eq_getElem _⟩
        obtain ⟨y, hy⟩ : ∃ y, ys[i]? = some y := ⟨ys[i]'(by rw [HY.out]; exact hlt), List.getElem?_eq_getElem _⟩
        obtain ⟨b1, o1, rfl, _, c1⟩ := H1.out.at1 (strs_get hx)
        obtain ⟨b2, o2, rfl, _, c2⟩ := H2.out.at1 (strs_get hy)
        have d1 : ∀ j, (w.drewN j).cell? ⟨b1, o1 + i, none⟩ = some (.string x) := fun _ => c1
        have d2 : ∀ j, (w.drewN j).cell? ⟨b2, o2 + i, none⟩ = some (.string y) := fun _ => c2
        have ia : ((i : Int)).toNat = i := by omega
        have pa : (0 : Int) ≤ (i : Int) := by omega
        have HXI := Lib.hid hx
        have HYI := Lib.hid hy
        clear c1 c2 hx hy
        by_cases hxy : x = y
        · subst hxy
          go_wp2
          go_quiet (fail)
          go_wp2
          go_roundg (n - (i + 1))
          case measure => omega
          case rel => exact ⟨i + 1, _, by first | rfl | go_num, by omega, by omega, rfl, Lib.hid (take_snoc_same HT.out HXI.out HYI.out)⟩
        · obtain ⟨e1, e2⟩ := str_ne hxy
          have HE := Lib.hid hxy
          clear hxy
          go_wp2
          go_quiet (fail)
          go_wp2
          go_ret
          refine ⟨ret_bool ?_, _, by first | rfl | exact World.drewN_drewN ..⟩
          rw [← HB.out]
          symm
          apply decide_eq_false
          intro e
          have h := HXI.out
          rw [e, HYI.out] at h
          cases h
          exact HE.out rfl
      · have hltz : ¬ (i : Int) < (n : Int) := by omega
        have he : i = n := by omega
        have HE := Lib.hid he
        clear he
        go_wp2
        go_ret
        refine ⟨ret_bool ?_, _, rfl⟩
        rw [← HB.out]
        symm
        apply decide_eq_true
        have h := HT.out
        rw [List.take_of_length_le (by rw [HX.out, HE.out]; omega), List.take_of_length_le (by rw [HY.out, HE.out]; omega)] at h
        exact h
  · have e1 : ((n : Int) == (n2 : Int)) = false := by simp; omega
    have e2 : (n == n2) = false := by simp; omega
    have HL := Lib.hid hl
    clear hl
    go_enter Tryd.func12, Tryd.ntmps12
    go_wp2
    go_ret
    refine ⟨ret_bool ?_, 0, rfl⟩
    rw [← HB.out]
    symm
    apply decide_eq_false
    intro e
    have h := HX.out
    rw [e, HY.out] at h
    exact HL.out h.symm
end Go.Proofs.YtbpphflegjebaaaDoor
