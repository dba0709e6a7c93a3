/- slices.Delete at a slice of numbers, by the shelf's contract. -/
import Derived.Shelf.Slices.Delete
import Derived.Lib.OwnBridge
import Derived.Test.YtgblbhbmeflckaaKit
namespace Go.Proofs
open Go.Shelf
def Try.delI_ren : Go.Shelf.Ren := ⟨fun | 23 => 36 | n => n, fun | 3 => 3 | 4 => 4 | 22 => 40 | n => n, fun n => n⟩
theorem Try.delI : Go.Proofs.Lays2.n23 Try.prog Try.delI_ren := {
  mixed := by kernel_rfl
  f23 := Try.func36.trans (congrArg some (by kernel_rfl))
  t0 := Try.underlying0
  a0 := Try.isAgg0
  z0 := Try.sizeOf0
  v0 := Try.zeroValue0
  t3 := Try.underlying3
  a3 := Try.isAgg3
  z3 := Try.sizeOf3
  v3 := Try.zeroValue3
  t4 := Try.underlying4
  a4 := Try.isAgg4
  z4 := Try.sizeOf4
  v4 := Try.zeroValue4
  t22 := Try.underlying40
  a22 := Try.isAgg40
  z22 := Try.sizeOf40
  v22 := Try.zeroValue40
  i3 := by kernel_rfl }
end Go.Proofs
namespace Go.Proofs.Ytgblbhbmeflckaa
open Go.RowKit Go.Sort Go.Lib
set_option linter.unusedVariables false
set_option linter.unusedSimpArgs false
theorem fr_putRow (w : World) (g q : Nat) (d : Array Int) : Fr w (putRow encI (Sort.ahead w q) g 0 d) (fun k => k = g) :=
  ⟨rfl, rfl, rfl, by simp [putRow, mapBlock, Sort.ahead], fun k hk hs => by
    have : g ≠ k := fun e => hs e.symm
    simp [putRow, mapBlock, Sort.ahead, Array.getElem?_modify, this]⟩
/-- one number is taken out -/
theorem delete_c (B : Nat) (v : Value) (xs : List Int) (n i : Nat) (hn : xs.length = n) (hi : i < n) (w : World) (ho : w.ownsRow B 3 1 v n (xs.map encI)) :
    Calls Try.prog 36 #[v, .int .i64 (i : Int), .int .i64 ((i : Int) + 1)] w fun e w' => ∃ v', e = .returned v' ∧ w'.ownsRow B 3 1 v' (n - 1) ((xs.eraseIdx i).map encI) ∧ v'.ownBlock = v.ownBlock ∧ Fr w w' (fun k => v.ownBlock = some k) := by
  obtain ⟨g, cap, rfl, _, _, hnc, hcm, _, hH⟩ := holds_of_ownsRow ho (by
    rintro rfl
    rcases ho.2 with ⟨_, h0⟩ | ⟨_, _, _, e, _⟩
    · omega
    · cases e)
  have hc := Any.slices_Delete_int_arr Try.delI g 0 cap i (i + 1) xs.toArray w hH (by simp; omega) hcm (by omega) (by simp; omega)
  have e1 : ((i + 1 : Nat) : Int) = (i : Int) + 1 := by omega
  rw [show xs.toArray.size = n by simp [hn]] at hc
  refine Calls.mono (by rw [← e1]; exact hc) ?_
  rintro e w' ⟨rfl, q, rfl⟩
  have hle : (xs.take i ++ xs.drop (i + 1) ++ List.replicate (i + 1 - i) 0).length = n := by simp; omega
  have hup := ownsRow_putRow (q := q) (k := n - 1) ho hle (by omega)
  have htk : (xs.take i ++ xs.drop (i + 1) ++ List.replicate (i + 1 - i) 0).take (n - 1) = xs.eraseIdx i := by
    rw [List.take_append_of_le_length (by simp; omega), List.take_of_length_le (by simp; omega), List.eraseIdx_eq_take_drop_succ]
  rw [htk] at hup
  have hsz : n - (i + 1 - i) = n - 1 := by omega
  refine ⟨_, rfl, by rw [hsz]; exact hup, rfl, ?_⟩
  exact (fr_putRow w g q _).mono fun k _ e => by rw [e]; rfl
end Go.Proofs.Ytgblbhbmeflckaa
