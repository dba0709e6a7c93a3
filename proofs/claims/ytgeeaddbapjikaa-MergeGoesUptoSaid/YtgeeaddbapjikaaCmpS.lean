/- cmp.Compare at texts and numbers, cmp.Or. -/
import Derived.Test.YtgeeaddbapjikaaKit
import Derived.Sort.Walk0
namespace Go.Proofs.Ytgeeaddbapjikaa
open Go.RowKit
set_option linter.unusedVariables false
set_option linter.unusedSimpArgs false
theorem nans_c (x : ByteArray) (w : World) : Calls Try.prog 32 #[.string x] w fun e w' => e = .returned (.bool false) ∧ w = w' := by
  go_enter Try.func32, Try.ntmps32
  go_wp2
  go_ret
  exact ⟨rfl, rfl⟩
theorem nani_c (x : Int) (w : World) : Calls Try.prog 33 #[.int .i64 x] w fun e w' => e = .returned (.bool false) ∧ w = w' := by
  have hx : (x != x) = false := by simp
  go_enter Try.func33, Try.ntmps33
  go_wp2
  go_ret
  exact ⟨rfl, rfl⟩
def cmpI (x y : Int) : Int := if x < y then -1 else if y < x then 1 else 0
theorem cmpi_c (x y : Int) (w : World) : Calls Try.prog 30 #[.int .i64 x, .int .i64 y] w fun e w' => e = .returned (.int .i64 (cmpI x y)) ∧ w = w' := by
  generalize hr : cmpI x y = r
  have HR := Lib.hid hr
  clear hr
  go_enter Try.func30, Try.ntmps30
  by_cases h1 : x < y
  · obtain rfl : -1 = r := by rw [← HR.out]; unfold cmpI; rw [if_pos h1]
    go_wp2_with (go_at_call 33; refine (nani_c _ _).mono ?_; rintro _ _ ⟨rfl, rfl⟩)
    go_ret
    exact ⟨rfl, rfl⟩
  · by_cases h2 : y < x
    · obtain rfl : 1 = r := by rw [← HR.out]; unfold cmpI; rw [if_neg h1, if_pos h2]
      go_wp2_with (go_at_call 33; refine (nani_c _ _).mono ?_; rintro _ _ ⟨rfl, rfl⟩)
      go_ret
      exact ⟨rfl, rfl⟩
    · obtain rfl : 0 = r := by rw [← HR.out]; unfold cmpI; rw [if_neg h1, if_neg h2]
      go_wp2_with (go_at_call 33; refine (nani_c _ _).mono ?_; rintro _ _ ⟨rfl, rfl⟩)
      go_ret
      exact ⟨rfl, rfl⟩
/-- texts in their order -/
def bl (x y : ByteArray) : Bool := Op.bytesLess x.toList y.toList
theorem bl_lt (x y : ByteArray) : bl x y = decide (x.data.toList < y.data.toList) := by
  unfold bl; rw [bytesLess_eq, Lib.toList_data, Lib.toList_data]
theorem bl_irr (x : ByteArray) : bl x x = false := by rw [bl_lt]; exact decide_eq_false (List.lt_irrefl _)
theorem bl_asym {x y : ByteArray} (h : bl x y = true) : bl y x = false := by
  rw [bl_lt] at *
  exact decide_eq_false (fun k => List.lt_asymm (of_decide_eq_true h) k)
theorem bl_eq {x y : ByteArray} (h : bl x y = false) (k : bl y x = false) : x = y := by
  rw [bl_lt] at *
  have h1 := of_decide_eq_false h
  have h2 := of_decide_eq_false k
  apply ByteArray.ext
  apply Array.ext'
  exact List.le_antisymm (List.not_lt.1 h2) (List.not_lt.1 h1)
theorem bl_tr {x y z : ByteArray} (h : bl x y = true) (k : bl y z = true) : bl x z = true := by
  rw [bl_lt] at *
  exact decide_eq_true (List.lt_trans (of_decide_eq_true h) (of_decide_eq_true k))
def cmpS (x y : ByteArray) : Int := if bl x y then -1 else if bl y x then 1 else 0
theorem cmps_c (x y : ByteArray) (w : World) : Calls Try.prog 27 #[.string x, .string y] w fun e w' => e = .returned (.int .i64 (cmpS x y)) ∧ w = w' := by
  generalize hr : cmpS x y = r
  have HR := Lib.hid hr
  clear hr
  go_enter Try.func27, Try.ntmps27
  cases h1 : bl x y
  · have e1 : Op.bytesLess x.toList y.toList = false := h1
    cases h2 : bl y x
    · obtain rfl : 0 = r := by rw [← HR.out]; unfold cmpS; rw [h1, h2]; rfl
      have e2 : (x.toList == y.toList) = true := by rw [bl_eq h1 h2]; exact beq_self_eq_true _
      clear h1 h2
      go_wp2_with (go_at_call 32; refine (nans_c _ _).mono ?_; rintro _ _ ⟨rfl, rfl⟩)
      go_ret
      exact ⟨rfl, rfl⟩
    · obtain rfl : 1 = r := by rw [← HR.out]; unfold cmpS; rw [h1, h2]; rfl
      have e2 : (x.toList == y.toList) = false := by
        rw [beq_eq_false_iff_ne]
        intro e
        unfold bl at h1 h2
        rw [e] at h1 h2
        rw [h1] at h2
        cases h2
      clear h1 h2
      go_wp2_with (go_at_call 32; refine (nans_c _ _).mono ?_; rintro _ _ ⟨rfl, rfl⟩)
      go_ret
      exact ⟨rfl, rfl⟩
  · have e1 : Op.bytesLess x.toList y.toList = true := h1
    obtain rfl : -1 = r := by rw [← HR.out]; unfold cmpS; rw [h1]; rfl
    clear h1
    go_wp2_with (go_at_call 32; refine (nans_c _ _).mono ?_; rintro _ _ ⟨rfl, rfl⟩)
    go_ret
    exact ⟨rfl, rfl⟩
def orI (a b : Int) : Int := if a = 0 then b else a
set_option maxHeartbeats 1000000 in
theorem or_c (a b : Int) (g : Nat) (w : World) (h0 : w.cell? ⟨g, 0, none⟩ = some (.int .i64 a)) (h1 : w.cell? ⟨g, 1, none⟩ = some (.int .i64 b)) :
    Calls Try.prog 29 #[.slice (some ⟨g, 0, none⟩) 2 2] w fun e w' => e = .returned (.int .i64 (orI a b)) ∧ w = w' := by
  generalize hr : orI a b = r
  have HR := Lib.hid hr
  clear hr
  go_enter Try.func29, Try.ntmps29
  go_wp2
  go_loopg [5, 8] 2 (fun m _ iv wr => w = wr ∧ ((m = 2 ∧ iv = .int .i64 0) ∨ (m = 1 ∧ iv = .int .i64 1 ∧ a = 0) ∨ (m = 0 ∧ iv = .int .i64 2 ∧ a = 0 ∧ b = 0)))
  case atStart => exact ⟨rfl, .inl ⟨rfl, rfl⟩⟩
  case round =>
    obtain ⟨rfl, ⟨rfl, rfl⟩ | ⟨rfl, rfl, rfl⟩ | ⟨rfl, rfl, rfl, rfl⟩⟩ := hrel
    · by_cases ha : a = 0
      · subst ha
        go_wp2
        go_roundg 1
        case measure => omega
        case rel => exact ⟨by first | rfl | trivial, .inr (.inl ⟨by first | rfl | trivial, by first | rfl | trivial, by first | rfl | trivial⟩)⟩
      · obtain rfl : a = r := by rw [← HR.out]; unfold orI; rw [if_neg ha]
        have hn : (a != 0) = true := by simpa using ha
        go_wp2
        go_ret
        exact ⟨rfl, rfl⟩
    · obtain rfl : b = r := by rw [← HR.out]; rfl
      by_cases hb : b = 0
      · subst hb
        go_wp2
        go_roundg 0
        case measure => omega
        case rel => exact ⟨by first | rfl | trivial, .inr (.inr ⟨by first | rfl | trivial, by first | rfl | trivial, by first | rfl | trivial, by first | rfl | trivial⟩)⟩
      · have hn : (b != 0) = true := by simpa using hb
        go_wp2
        go_ret
        exact ⟨rfl, rfl⟩
    · obtain rfl : 0 = r := by rw [← HR.out]; rfl
      go_wp2
      go_ret
      exact ⟨rfl, rfl⟩
end Go.Proofs.Ytgeeaddbapjikaa
