/- record's fits and Valid. -/
import Derived.Test.YtclalapadpjclaaDoorLaid
import Derived.Test.YtclalapadpjclaaDoorView
import Derived.Test.YtclalapadpjclaaDoorMake
namespace Rec
/-- numbers, more, texts, more texts: by kind -/
def shapes : List (Nat × Nat × Nat × Nat) := [(0, 0, 0, 0), (9, 0, 2, 0), (0, 0, 1, 0), (0, 0, 1, 0), (2, 1, 0, 1), (1, 1, 0, 0), (0, 3, 0, 0), (1, 1, 0, 0), (4, 1, 1, 0), (1, 1, 0, 0), (3, 0, 0, 0), (1, 0, 1, 0), (1, 3, 0, 0), (0, 5, 0, 0), (3, 4, 0, 0), (0, 1, 0, 1), (4, 0, 0, 0), (1, 0, 0, 2)]
def fitsN (n least more : Nat) : Bool := if more = 0 then decide (n = least) else decide (least ≤ n) && decide ((n - least) % more = 0)
def validB (k : Int) (n t : Nat) : Bool := if k < 1 ∨ 18 ≤ k then false else fitsN n (shapes.getD k.toNat (0, 0, 0, 0)).1 (shapes.getD k.toNat (0, 0, 0, 0)).2.1 && fitsN t (shapes.getD k.toNat (0, 0, 0, 0)).2.2.1 (shapes.getD k.toNat (0, 0, 0, 0)).2.2.2
end Rec
namespace Go.Proofs.YtclalapadpjclaaDoor
open Go.RowKit
set_option linter.unusedVariables false
set_option linter.unusedSimpArgs false
theorem ret_bool_t {a b : Bool} (h : a = b) : Ending.returned (.bool a) = Ending.returned (.bool b) := by rw [h]
set_option maxHeartbeats 1000000 in
theorem fits_c (n least more : Nat) (hn : n ≤ 140737488355328) (hl : least ≤ 140737488355328) (hm : more ≤ 140737488355328) (w : World) :
    Calls Tryd.prog 22 #[.int .i64 (n : Int), .int .i64 (least : Int), .int .i64 (more : Int)] w fun e w' => e = .returned (.bool (Rec.fitsN n least more)) ∧ w = w' := by
  by_cases h0 : more = 0
  · subst h0
    have e : Rec.fitsN n least 0 = decide (n = least) := rfl
    go_enter Tryd.func22, Tryd.ntmps22
    go_wp2
    go_ret
    refine ⟨ret_bool_t ?_, rfl⟩
    rw [e]
    by_cases h : n = least
    · simp [h]
    · simp [h]; omega
  · have t1 : ((more : Int) == 0) = false := by simp; omega
    have e : Rec.fitsN n least more = (decide (least ≤ n) && decide ((n - least) % more = 0)) := if_neg h0
    rw [e]
    by_cases h : least ≤ n
    · have t2 : decide ((least : Int) ≤ (n : Int)) = true := decide_eq_true (by omega)
      have hz : ((((n : Int) - (least : Int)) % (more : Int)) == 0) = (decide (least ≤ n) && decide ((n - least) % more = 0)) := by
        have e1 : ((n : Int) - (least : Int)) = ((n - least : Nat) : Int) := by omega
        rw [e1, show decide (least ≤ n) = true from decide_eq_true h, Bool.true_and, ← Int.natCast_emod]
        by_cases hz : (n - least) % more = 0
        · rw [hz]; rfl
        · simp [hz]; omega
      have HZ := Lib.hid hz
      have pm : (0 : Int) < (more : Int) := by omega
      have pd : (0 : Int) ≤ (n : Int) - (least : Int) := by omega
      clear hz h0 h
      go_enter Tryd.func22, Tryd.ntmps22
      go_wp2
      go_ret
      exact ⟨ret_bool_t HZ.out, rfl⟩
    · have t2 : decide ((least : Int) ≤ (n : Int)) = false := decide_eq_false (by omega)
      have t2n : decide (least ≤ n) = false := decide_eq_false h
      rw [t2n, Bool.false_and]
      clear h e
      go_enter Tryd.func22, Tryd.ntmps22
      go_wp2
      go_ret
      exact ⟨rfl, rfl⟩
/-- the table of shapes, as it is laid -/
def ShTab (w : World) : Prop := ∀ k, k < 18 → w.cell? ⟨0, k * 4, none⟩ = some (.int .i64 ((Rec.shapes.getD k (0, 0, 0, 0)).1 : Int)) ∧ w.cell? ⟨0, k * 4 + 1, none⟩ = some (.int .i64 ((Rec.shapes.getD k (0, 0, 0, 0)).2.1 : Int)) ∧
  w.cell? ⟨0, k * 4 + 2, none⟩ = some (.int .i64 ((Rec.shapes.getD k (0, 0, 0, 0)).2.2.1 : Int)) ∧ w.cell? ⟨0, k * 4 + 3, none⟩ = some (.int .i64 ((Rec.shapes.getD k (0, 0, 0, 0)).2.2.2 : Int))
theorem shtab_of_laid {W : World} (h : laidMetH Tryd.prog [("mahout/record.shapes", Rows.laid_mahout_record_shapes)] W) : ShTab W := by
  have key := laid_cells (P := Tryd.prog) (W := W) (name := "mahout/record.shapes") (d := Rows.laid_mahout_record_shapes) (rest := []) (g := 0) (t := 67) (n := 8) (ks := List.replicate 72 (.int .i64))
    (vs := ((Rec.shapes.map fun s => [Value.int .i64 (s.1 : Int), .int .i64 (s.2.1 : Int), .int .i64 (s.2.2.1 : Int), .int .i64 (s.2.2.2 : Int)]).flatten)) (by kernel_rfl) (by kernel_rfl) (by kernel_rfl) (by kernel_rfl) h
  intro k hk
  have : k = 0 ∨ k = 1 ∨ k = 2 ∨ k = 3 ∨ k = 4 ∨ k = 5 ∨ k = 6 ∨ k = 7 ∨ k = 8 ∨ k = 9 ∨ k = 10 ∨ k = 11 ∨ k = 12 ∨ k = 13 ∨ k = 14 ∨ k = 15 ∨ k = 16 ∨ k = 17 := by omega
  rcases this with rfl | rfl | rfl | rfl | rfl | rfl | rfl | rfl | rfl | rfl | rfl | rfl | rfl | rfl | rfl | rfl | rfl | rfl
  all_goals exact ⟨key _ _ rfl, key _ _ rfl, key _ _ rfl, key _ _ rfl⟩
theorem ShTab.below {w w' : World} {N : Nat} (h : ShTab w) (hb : Below N w w') (hN : w.heap.size ≤ N) : ShTab w' := fun k hk => by
  obtain ⟨h0, h1, h2, h3⟩ := h k hk
  have hl : 0 < w.heap.size := block_lt_of_cell h0
  have f := fun o => hb.cell (p := (⟨0, o, none⟩ : Addr)) (by show 0 < N; omega)
  exact ⟨(f _).trans h0, (f _).trans h1, (f _).trans h2, (f _).trans h3⟩
theorem shapes_le (k : Nat) : (Rec.shapes.getD k (0, 0, 0, 0)).1 ≤ 9 ∧ (Rec.shapes.getD k (0, 0, 0, 0)).2.1 ≤ 9 ∧ (Rec.shapes.getD k (0, 0, 0, 0)).2.2.1 ≤ 9 ∧ (Rec.shapes.getD k (0, 0, 0, 0)).2.2.2 ≤ 9 := by
  by_cases hk : k < 18
  · have : k = 0 ∨ k = 1 ∨ k = 2 ∨ k = 3 ∨ k = 4 ∨ k = 5 ∨ k = 6 ∨ k = 7 ∨ k = 8 ∨ k = 9 ∨ k = 10 ∨ k = 11 ∨ k = 12 ∨ k = 13 ∨ k = 14 ∨ k = 15 ∨ k = 16 ∨ k = 17 := by omega
    rcases this with rfl | rfl | rfl | rfl | rfl | rfl | rfl | rfl | rfl | rfl | rfl | rfl | rfl | rfl | rfl | rfl | rfl | rfl <;> decide
  · have : Rec.shapes[k]? = none := List.getElem?_eq_none (by show 18 ≤ k; omega)
    rw [List.getD_eq_getElem?_getD, this]
    decide
/-- a message's value -/
def msgV (k c a : Int) (pn : Option Addr) (n cn : Nat) (pt : Option Addr) (t ct : Nat) : Value := .agg #[.int .i64 k, .int .i64 c, .int .i64 a, .slice pn n cn, .slice pt t ct]
set_option maxRecDepth 20000 in
set_option maxHeartbeats 2000000 in
theorem valid_c (k c a : Int) (pn : Option Addr) (n cn : Nat) (pt : Option Addr) (t ct : Nat) (hn : n ≤ 140737488355328) (ht : t ≤ 140737488355328) (w : World) (hT : ShTab w) :
    Calls Tryd.prog 10 #[msgV k c a pn n cn pt t ct] w fun e w' => e = .returned (.bool (Rec.validB k n t)) ∧ Below w.heap.size w w' := by
  have HN := Lib.hid hn
  have HTT := Lib.hid ht
  have HT := Lib.hid hT
  clear hn ht hT
  unfold msgV
  by_cases h1 : k < 1
  · have t1 : decide (k < 1) = true := decide_eq_true h1
    rw [show Rec.validB k n t = false from if_pos (.inl h1)]
    clear h1
    go_enter Tryd.func10, Tryd.ntmps10
    go_wp2
    go_ret
    exact ⟨rfl, (Below.refl _ w).alloc (Nat.le_refl _) _⟩
  · by_cases h2 : 18 ≤ k
    · have t1 : decide (k < 1) = false := decide_eq_false h1
      have t2 : decide (18 ≤ k) = true := decide_eq_true h2
      rw [show Rec.validB k n t = false from if_pos (.inr h2)]
      clear h1 h2
      go_enter Tryd.func10, Tryd.ntmps10
      go_wp2
      go_ret
      exact ⟨rfl, (Below.refl _ w).alloc (Nat.le_refl _) _⟩
    · obtain ⟨j, rfl⟩ : ∃ j : Nat, k = (j : Int) := ⟨k.toNat, by omega⟩
      have hj : j < 18 := by omega
      have t1 : decide ((j : Int) < 1) = false := decide_eq_false h1
      have t2 : decide (18 ≤ (j : Int)) = false := decide_eq_false h2
      have t2n : decide (18 ≤ j) = false := decide_eq_false (by omega)
      have e : Rec.validB (j : Int) n t = (Rec.fitsN n (Rec.shapes.getD j (0, 0, 0, 0)).1 (Rec.shapes.getD j (0, 0, 0, 0)).2.1 && Rec.fitsN t (Rec.shapes.getD j (0, 0, 0, 0)).2.2.1 (Rec.shapes.getD j (0, 0, 0, 0)).2.2.2) := by
        unfold Rec.validB
        rw [if_neg (by omega), Int.toNat_natCast]
      rw [e]
      obtain ⟨d0, d1, d2, d3⟩ := HT.out j hj
      obtain ⟨l0, l1, l2, l3⟩ := shapes_le j
      generalize Rec.shapes.getD j (0, 0, 0, 0) = s at *
      obtain ⟨s0, s1, s2, s3⟩ := s
      dsimp only at *
      have hlt : 0 < w.heap.size := block_lt_of_cell d0
      have f := fun o => ((Below.refl _ w).alloc (Nat.le_refl _) (.cells #[.int .i64 (j : Int), .int .i64 c, .int .i64 a, .slice pn n cn, .slice pt t ct] 28)).cell (p := (⟨0, o, none⟩ : Addr)) hlt
      have e0 := (f _).trans d0
      have e1 := (f _).trans d1
      have e2 := (f _).trans d2
      have e3 := (f _).trans d3
      have L := Lib.hid (And.intro l0 (And.intro l1 (And.intro l2 l3)))
      clear f d0 d1 d2 d3 l0 l1 l2 l3 h1 h2 e hlt
      have jz : (j : Int) < 18 := by omega
      have jp : (0 : Int) ≤ (j : Int) := by omega
      have ja : ((j : Int)).toNat = j := by omega
      have HF := fun w => Lib.hid (fits_c n s0 s1 HN.out (by have := L.out; omega) (by have := L.out; omega) w)
      have HG := fun w => Lib.hid (fits_c t s2 s3 HTT.out (by have := L.out; omega) (by have := L.out; omega) w)
      have BB : Hid (Below w.heap.size w ((w.alloc (Obj.cells #[Value.int IntKind.i64 (j : Int), Value.int IntKind.i64 c, Value.int IntKind.i64 a, Value.slice pn n cn, Value.slice pt t ct] 28)).alloc (Obj.cells #[Value.int IntKind.i64 (s0 : Int), Value.int IntKind.i64 (s1 : Int), Value.int IntKind.i64 (s2 : Int), Value.int IntKind.i64 (s3 : Int)] 66))) :=
        Lib.hid (((Below.refl _ w).alloc (Nat.le_refl _) _).alloc (by simp) _)
      generalize Rec.fitsN n s0 s1 = x at HF
      generalize Rec.fitsN t s2 s3 = y at HG
      cases x with
      | true =>
        rw [Bool.true_and]
        go_enter Tryd.func10, Tryd.ntmps10
        go_wp2_with fail
        refine (HF _).out.mono ?_
        rintro ex w1 ⟨rfl, rfl⟩
        go_wp2_with fail
        refine (HG _).out.mono ?_
        rintro ex w1 ⟨rfl, rfl⟩
        go_wp2_with fail
        go_ret
        exact ⟨rfl, BB.out⟩
      | false =>
        rw [Bool.false_and]
        go_enter Tryd.func10, Tryd.ntmps10
        go_wp2_with fail
        refine (HF _).out.mono ?_
        rintro ex w1 ⟨rfl, rfl⟩
        go_wp2_with fail
        go_ret
        exact ⟨rfl, BB.out⟩
end Go.Proofs.YtclalapadpjclaaDoor
