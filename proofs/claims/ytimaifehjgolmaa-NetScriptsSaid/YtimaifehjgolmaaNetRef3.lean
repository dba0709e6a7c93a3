/- More of the reference's calls. -/
import Derived.Test.YtimaifehjgolmaaNetRef2
namespace Go.Proofs.Ytimaifehjgolmaa
open Go.RowKit Go.Maps
set_option linter.unusedVariables false
set_option linter.unusedSimpArgs false
theorem wayOf_eq {x y a b : Int} : wayOf x y = wayOf a b ↔ (x = a ∧ y = b) ∨ (x = b ∧ y = a) := by
  unfold wayOf
  rw [Prod.mk.injEq]
  omega
set_option maxHeartbeats 1000000 in
theorem rparted_any (b : Nat) (v : Value) (s : NS) (x y : Int) (w : World) (h : RefIs w b v s) (hok : s.Ok) :
    Calls Try.prog 24 #[.pointer (some ⟨b, 0, none⟩), .int .i64 x, .int .i64 y] w fun e w' => e = .returned (.bool (s.knows x y && s.cut (wayOf x y))) ∧ w = w' := by
  have hn := hok.n1
  have HN1 := fun w' h => Lib.hid (node_any b v s x w' h)
  have HN2 := fun w' h => Lib.hid (node_any b v s y w' h)
  have H := Lib.hid h
  unfold NS.knows
  cases hk1 : decide (0 ≤ x ∧ x < s.nodes)
  · rw [Bool.false_and, Bool.false_and]
    simp only [hk1] at HN1
    clear hk1 h
    go_enter Try.func24, Try.ntmps24
    go_wp2_with (go_at_call 29; with_reducible refine Calls.mono (HN1 _ H.out).out ?_; rintro e w' ⟨rfl, rfl⟩)
    go_ret
    exact ⟨rfl, rfl⟩
  · cases hk2 : decide (0 ≤ y ∧ y < s.nodes)
    · rw [Bool.and_false, Bool.false_and]
      simp only [hk1] at HN1
      simp only [hk2] at HN2
      clear hk1 hk2 h
      go_enter Try.func24, Try.ntmps24
      go_wp2_with (first | (go_at_call 29; with_reducible refine Calls.mono (HN1 _ H.out).out ?_; rintro e w' ⟨rfl, rfl⟩) | (go_at_call 29; with_reducible refine Calls.mono (HN2 _ H.out).out ?_; rintro e w' ⟨rfl, rfl⟩))
      go_ret
      exact ⟨rfl, rfl⟩
    · rw [Bool.true_and, Bool.true_and]
      have k1 := of_decide_eq_true hk1
      have k2 := of_decide_eq_true hk2
      simp only [hk1] at HN1
      simp only [hk2] at HN2
      obtain ⟨i, rfl⟩ : ∃ i : Nat, x = i := ⟨x.toNat, by omega⟩
      obtain ⟨j, rfl⟩ : ∃ j : Nat, y = j := ⟨y.toNat, by omega⟩
      have c := h.cutAt (x := i) (y := j) (by omega) (by omega)
      have b1 : (i : Int) < 64 := by omega
      have b2 : (j : Int) < 64 := by omega
      generalize s.cut (wayOf i j) = q at c ⊢
      clear hk1 hk2 h k1 k2
      go_enter Try.func24, Try.ntmps24
      go_wp2_with (first | (go_at_call 29; with_reducible refine Calls.mono (HN1 _ H.out).out ?_; rintro e w' ⟨rfl, rfl⟩) | (go_at_call 29; with_reducible refine Calls.mono (HN2 _ H.out).out ?_; rintro e w' ⟨rfl, rfl⟩))
      go_ret
      exact ⟨rfl, rfl⟩
theorem RefIs.recut {w : World} {b : Nat} {v : Value} {s : NS} (h : RefIs w b v s) {i j : Nat} (hi : i < 64) (hj : j < 64) (c : Bool) :
    RefIs ((w.setCell ⟨b, 3 + i * 64 + j, none⟩ (.bool c)).setCell ⟨b, 3 + j * 64 + i, none⟩ (.bool c)) b v { s with cut := fun p => if p = wayOf i j then c else s.cut p } ∧
      FieldR w b v ((w.setCell ⟨b, 3 + i * 64 + j, none⟩ (.bool c)).setCell ⟨b, 3 + j * 64 + i, none⟩ (.bool c)) v := by
  have hf : Fr w ((w.setCell ⟨b, 3 + i * 64 + j, none⟩ (.bool c)).setCell ⟨b, 3 + j * 64 + i, none⟩ (.bool c)) (fun k => k = b) := by
    refine Fr.setCell (Fr.setCell (Fr.refl w (fun k => k = b)) ⟨b, 3 + i * 64 + j, none⟩ (.bool c) ?_) ⟨b, 3 + j * 64 + i, none⟩ (.bool c) ?_
    all_goals exact fun _ => rfl
  obtain ⟨cs, hl, hB, hc⟩ := h.blk
  have hB2 := (hB.set (3 + i * 64 + j) (.bool c)).set (3 + j * 64 + i) (.bool c)
  rw [show 3 + i * 64 + j = (i * 64 + j) + 1 + 1 + 1 by omega, show 3 + j * 64 + i = (j * 64 + i) + 1 + 1 + 1 by omega] at hB2
  simp only [List.set_cons_succ] at hB2
  rw [show (i * 64 + j) + 1 + 1 + 1 = 3 + i * 64 + j by omega, show (j * 64 + i) + 1 + 1 + 1 = 3 + j * 64 + i by omega] at hB2
  refine ⟨⟨⟨_, by rw [List.length_set, List.length_set]; exact hl, hB2, fun x y hx hy => ?_⟩, h.recs.fr hf (fun k e e' => h.ne (e' ▸ e)), h.ne⟩, .inl rfl, hf.mono fun _ _ e => .inl e⟩
  show _ = some (Value.bool (if wayOf x y = wayOf i j then c else s.cut (wayOf x y)))
  by_cases e1 : j * 64 + i = x * 64 + y
  · have : x = j ∧ y = i := by omega
    rw [e1, List.getElem?_set_self (by rw [List.length_set, hl]; omega), if_pos (wayOf_eq.2 (.inr ⟨by omega, by omega⟩))]
  · rw [List.getElem?_set_ne e1]
    by_cases e2 : i * 64 + j = x * 64 + y
    · have : x = i ∧ y = j := by omega
      rw [e2, List.getElem?_set_self (by rw [hl]; omega), if_pos (wayOf_eq.2 (.inl ⟨by omega, by omega⟩))]
    · rw [List.getElem?_set_ne e2, if_neg, hc x y hx hy]
      rw [wayOf_eq]
      omega
set_option maxHeartbeats 1000000 in
theorem rpart_any (b : Nat) (v : Value) (s : NS) (x y : Int) (c : Bool) (w : World) (h : RefIs w b v s) (hok : s.Ok) :
    Calls Try.prog 22 #[.pointer (some ⟨b, 0, none⟩), .int .i64 x, .int .i64 y, .bool c] w (RIntPost w b v (s.part x y c)) := by
  have hn := hok.n1
  have HN1 := fun w' h => Lib.hid (node_any b v s x w' h)
  have HN2 := fun w' h => Lib.hid (node_any b v s y w' h)
  have H := Lib.hid h
  generalize hr : s.part x y c = r
  have HR := Lib.hid hr
  clear hr
  unfold NS.part NS.knows at HR
  cases hk1 : decide (0 ≤ x ∧ x < s.nodes)
  · rw [hk1, Bool.false_and, Bool.false_and, if_neg (by decide)] at HR
    simp only [hk1] at HN1
    clear hk1 h
    go_enter Try.func22, Try.ntmps22
    go_wp2_with (go_at_call 29; with_reducible refine Calls.mono (HN1 _ H.out).out ?_; rintro e w' ⟨rfl, rfl⟩)
    go_ret
    exact RIntPost.same H.out HR.out
  · cases hk2 : decide (0 ≤ y ∧ y < s.nodes)
    · rw [hk2, Bool.and_false, Bool.false_and, if_neg (by decide)] at HR
      simp only [hk1] at HN1
      simp only [hk2] at HN2
      clear hk1 hk2 h
      go_enter Try.func22, Try.ntmps22
      go_wp2_with (first | (go_at_call 29; with_reducible refine Calls.mono (HN1 _ H.out).out ?_; rintro e w' ⟨rfl, rfl⟩) | (go_at_call 29; with_reducible refine Calls.mono (HN2 _ H.out).out ?_; rintro e w' ⟨rfl, rfl⟩))
      go_ret
      exact RIntPost.same H.out HR.out
    · have k1 := of_decide_eq_true hk1
      have k2 := of_decide_eq_true hk2
      by_cases hxy : x = y
      · rw [hk1, hk2, decide_eq_false (by simpa using hxy), Bool.and_false, if_neg (by decide)] at HR
        simp only [hk1] at HN1
        simp only [hk2] at HN2
        subst hxy
        clear hk1 hk2 h
        go_enter Try.func22, Try.ntmps22
        go_wp2_with (first | (go_at_call 29; with_reducible refine Calls.mono (HN1 _ H.out).out ?_; rintro e w' ⟨rfl, rfl⟩) | (go_at_call 29; with_reducible refine Calls.mono (HN2 _ H.out).out ?_; rintro e w' ⟨rfl, rfl⟩))
        go_ret
        exact RIntPost.same H.out HR.out
      · rw [hk1, hk2, decide_eq_true (by simpa using hxy), Bool.true_and, Bool.true_and, if_pos rfl] at HR
        simp only [hk1] at HN1
        simp only [hk2] at HN2
        have hxy1 : (x == y) = false := by simpa using hxy
        obtain ⟨i, rfl⟩ : ∃ i : Nat, x = i := ⟨x.toNat, by omega⟩
        obtain ⟨j, rfl⟩ : ∃ j : Nat, y = j := ⟨y.toNat, by omega⟩
        have hi : i < 64 := by omega
        have hj : j < 64 := by omega
        have c1 := h.cutAt (x := i) (y := j) hi hj
        have c2 := h.cutAt (x := j) (y := i) hj hi
        have fz := h.fz
        have HRC := Lib.hid (h.recut hi hj c)
        have b1 : (i : Int) < 64 := by omega
        have b2 : (j : Int) < 64 := by omega
        clear hk1 hk2 h k1 k2 hxy
        have hadne : (⟨b, 3 + i * 64 + j, none⟩ : Addr) ≠ ⟨b, 3 + j * 64 + i, none⟩ := by intro e; injection e with _ e; simp at hxy1; omega
        go_enter Try.func22, Try.ntmps22
        go_wp2_with (first | (go_at_call 29; with_reducible refine Calls.mono (HN1 _ H.out).out ?_; rintro e w' ⟨rfl, rfl⟩) | (go_at_call 29; with_reducible refine Calls.mono (HN2 _ H.out).out ?_; rintro e w' ⟨rfl, rfl⟩))
        go_ret
        rw [← HR.out]
        exact ⟨rfl, _, HRC.out.1, HRC.out.2⟩
end Go.Proofs.Ytimaifehjgolmaa
