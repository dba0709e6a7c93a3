/- NetNil: no net. -/
import Derived.Test.YtimaifehjgolmaaNetSpeaks
namespace Go.Proofs.Ytimaifehjgolmaa
open Go.RowKit Go.Maps
set_option linter.unusedVariables false
set_option linter.unusedSimpArgs false
theorem send_nil (a c : Int) (t : ByteArray) (w : World) : Calls Try.prog 10 #[.pointer none, .int .i64 a, .int .i64 c, .string t] w fun e w' => e = .returned (.tuple #[.int .i64 0, .int .i64 2]) ∧ w = w' := by
  go_enter Try.func10, Try.ntmps10
  go_wp2
  go_ret2
  exact ⟨rfl, rfl⟩
theorem drop_nil (k : Int) (w : World) : Calls Try.prog 18 #[.pointer none, .int .i64 k] w fun e w' => e = .returned (.int .i64 2) ∧ w = w' := by
  go_enter Try.func18, Try.ntmps18
  go_wp2_with (go_at_call 26; refine (has_nil _ _).mono ?_; rintro e w' ⟨rfl, rfl⟩)
  go_ret
  exact ⟨rfl, rfl⟩
theorem double_nil (k : Int) (w : World) : Calls Try.prog 20 #[.pointer none, .int .i64 k] w fun e w' => e = .returned (.int .i64 2) ∧ w = w' := by
  go_enter Try.func20, Try.ntmps20
  go_wp2_with (go_at_call 26; refine (has_nil _ _).mono ?_; rintro e w' ⟨rfl, rfl⟩)
  go_ret
  exact ⟨rfl, rfl⟩
theorem part_nil (a c : Int) (t : Bool) (w : World) : Calls Try.prog 13 #[.pointer none, .int .i64 a, .int .i64 c, .bool t] w fun e w' => e = .returned (.int .i64 2) ∧ w = w' := by
  go_enter Try.func13, Try.ntmps13
  go_wp2
  go_ret
  exact ⟨rfl, rfl⟩
theorem deliver_nil (k : Int) (w : World) : Calls Try.prog 11 #[.pointer none, .int .i64 k] w fun e w' => e = .returned (.tuple #[.agg #[.int .i64 0, .int .i64 0, .int .i64 0, .string ⟨#[]⟩], .int .i64 2]) ∧ Below w.heap.size w w' := by
  have HB := Lib.hid (Blk.new w [.int .i64 0, .int .i64 0, .int .i64 0, .string ⟨#[]⟩] 32)
  have HF := Lib.hid ((Below.refl w.heap.size w).alloc (Nat.le_refl _) (.cells #[.int .i64 0, .int .i64 0, .int .i64 0, .string ⟨#[]⟩] 32))
  rw [show ([.int .i64 0, .int .i64 0, .int .i64 0, .string ⟨#[]⟩] : List Value).toArray = #[.int .i64 0, .int .i64 0, .int .i64 0, .string ⟨#[]⟩] from rfl] at HB
  go_enter Try.func11, Try.ntmps11
  go_wp2_with fail
  generalize w.alloc (.cells #[.int .i64 0, .int .i64 0, .int .i64 0, .string ⟨#[]⟩] 32) = w1 at HB HF ⊢
  refine (has_nil _ _).mono ?_
  rintro e w' ⟨rfl, rfl⟩
  have z0 : w1.cell? ⟨w.heap.size, 0, none⟩ = some (.int .i64 0) := HB.out.cell 0
  have z1 : w1.cell? ⟨w.heap.size, 1, none⟩ = some (.int .i64 0) := HB.out.cell 1
  have z2 : w1.cell? ⟨w.heap.size, 2, none⟩ = some (.int .i64 0) := HB.out.cell 2
  have z3 : w1.cell? ⟨w.heap.size, 3, none⟩ = some (.string ⟨#[]⟩) := HB.out.cell 3
  have zf : ∀ j, w1.frozen? ⟨w.heap.size, j, none⟩ = false := HB.out.frozen
  go_wp2_with fail
  refine bodyPost_ret (results_row_tmp rfl _ _ w.heap.size 32 _ (0, 0) _ rfl (HB.out.put4 _ _ _ _) Try.underlying32 rfl letter_size) rfl ?_
  exact ⟨rfl, HF.out.trans ((fr_put4 w1 w.heap.size _ _ _ _).below (fun k _ e => by omega) HF.out.size)⟩
set_option maxHeartbeats 2000000 in
set_option maxRecDepth 20000 in
theorem netNil_walk (a : Int) (wa : (Lit.int .i64 a).wf = true) (b : Int) (wb : (Lit.int .i64 b).wf = true) (body : ByteArray) (wbody : body.size ≤ 140737488351232) (W : World) :
    Calls Try.prog 6 #[.int .i64 a, .int .i64 b, .string body] W fun e w' => e = .returned (.bool true) ∧ Below W.heap.size W w' := by
  go_enter Try.func6, Try.ntmps6
  go_wp2_with fail
  refine (speaks_any W).mono ?_
  rintro e w1 ⟨rfl, hb1⟩
  have HB1 := Lib.hid hb1
  clear hb1
  go_wp2_with fail
  refine (send_nil a b body w1).mono ?_
  rintro e w' ⟨rfl, rfl⟩
  go_wp2_with fail
  refine (deliver_nil a w1).mono ?_
  rintro e w2 ⟨rfl, hb2⟩
  have HB2 := Lib.hid hb2
  clear hb2
  go_wp2_with (first
    | (go_at_call 18; refine (drop_nil a _).mono ?_; rintro e w' ⟨rfl, rfl⟩)
    | (go_at_call 20; refine (double_nil a _).mono ?_; rintro e w' ⟨rfl, rfl⟩)
    | (go_at_call 13; refine (part_nil a b _ _).mono ?_; rintro e w' ⟨rfl, rfl⟩)
    | (go_at_call 12; refine (flying_nil _).mono ?_; rintro e w' ⟨rfl, rfl⟩)
    | (go_at_call 14; refine (parted_nil a b _).mono ?_; rintro e w' ⟨rfl, ⟨nn, rfl⟩⟩))
  go_ret
  exact ⟨rfl, below_drewN ((below_then HB1.out HB1.out.size HB2.out).alloc (by have h1 := HB1.out.size; have h2 := HB2.out.size; omega) _) nn⟩
end Go.Proofs.Ytimaifehjgolmaa
