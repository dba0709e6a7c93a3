/- The contracts of the document's checksum. -/
import Derived.Test.YtbpphflegjebaaaDoorCrc
namespace Go.Proofs.YtbpphflegjebaaaDoor
open Go.RowKit
set_option linter.unusedVariables false
set_option linter.unusedSimpArgs false
theorem bitN_succ (k x : Nat) : Crc.bitN (k + 1) x = Crc.bit1 (Crc.bitN k x) := Crc.bitN_add k 1 x
theorem and1_i {y : Nat} (hy : y < 4294967296) : bits .and .u32 (y : Int) 1 = ((y % 2 : Nat) : Int) := by
  rw [show (1 : Int) = ((1 : Nat) : Int) from rfl, u32_and_nat _ _ hy (by decide), nat_mask1]
theorem poly_i {y : Nat} (hy : y < 4294967296) : bits .xor .u32 ((y : Int) / 2) 2197175160 = (((y / 2) ^^^ 2197175160 : Nat) : Int) := by
  rw [show (2197175160 : Int) = ((2197175160 : Nat) : Int) from rfl, show ((y : Int) / 2) = ((y / 2 : Nat) : Int) by omega, u32_xor_nat _ _ (by omega) (by decide)]
theorem flip_i {y : Nat} (hy : y < 4294967296) : bits .xor .u32 (y : Int) 4294967295 = ((Crc.inv y : Nat) : Int) := by
  rw [show (4294967295 : Int) = ((4294967295 : Nat) : Int) from rfl, u32_xor_nat _ _ hy (by decide)]; rfl
set_option maxHeartbeats 400000 in
theorem refStep_any (r : Nat) (b : UInt8) (w : World) (hr : r < 4294967296) :
    Calls Tryd.prog 23 #[.int .u32 r, .int .u8 (b.toNat : Int)] w fun e w' => e = .returned (.int .u32 (Crc.refStep r b.toNat : Nat)) ∧ w = w' := by
  have hx0 : r ^^^ b.toNat < 4294967296 := Nat.xor_lt_two_pow (n := 32) hr (by have := b.toNat_lt; omega)
  generalize hx : r ^^^ b.toNat = x at hx0
  have e1 : bits .xor .u32 (r : Int) ((b.toNat : Int) % 4294967296) = (x : Int) := by rw [byte_i hr b, hx]
  have hx := Lib.hid hx
  go_enter Tryd.func23, Tryd.ntmps23
  go_wp2
  clear e1
  go_loop [0, 5] (fun r i => ∃ k : Nat, k ≤ 8 ∧ i = .int .i64 k ∧ r = .int .u32 (Crc.bitN k x : Nat)) (fun _ i => 8 - (intOf i).toNat)
  case atStart => exact ⟨0, by omega, rfl, rfl⟩
  case round =>
    obtain ⟨k, hk, rfl, rfl⟩ := hrel
    have hy := Crc.bitN_lt k hx0
    have hs := bitN_succ k x
    generalize hY : Crc.bitN k x = y at hy hs
    have hs := Lib.hid hs
    have hY := Lib.hid hY
    by_cases hlt : k < 8
    · have ha := and1_i hy
      rcases Nat.mod_two_eq_zero_or_one y with h2 | h2
      · rw [h2] at ha
        have h2 := Lib.hid h2
        go_wp2
        go_round
        case rel => exact ⟨k + 1, by omega, by go_num, val_int (by rw [hs.out, Crc.bit1, if_neg (by rw [h2.out]; decide)]; rfl)⟩
        case measure => simp [intOf]; omega
      · rw [h2] at ha
        have h2 := Lib.hid h2
        go_wp2
        go_round
        case rel => exact ⟨k + 1, by omega, by go_num, val_int (by rw [hs.out, Crc.bit1, if_pos h2.out]; exact poly_i hy)⟩
        case measure => simp [intOf]; omega
    · go_wp2
      go_ret
      obtain rfl : k = 8 := by omega
      exact ⟨ret_int (by rw [← hY.out, ← hx.out]; rfl), rfl⟩
set_option maxHeartbeats 400000 in
theorem refExt_any (s : ByteArray) (c : Nat) (w : World) (hs : s.size ≤ maxLen) (hc : c < 4294967296) :
    Calls Tryd.prog 22 #[.int .u32 c, .string s] w fun e w' => e = .returned (.int .u32 (Crc.ext c s.data.toList : Nat)) ∧ w = w' := by
  unfold maxLen at hs
  have hx := flip_i hc
  have hi := Crc.inv_lt hc
  go_enter Tryd.func22, Tryd.ntmps22
  go_wp2
  clear hx
  go_loop [5, 6] (fun r i => ∃ k : Nat, k ≤ s.size ∧ i = .int .i64 k ∧ r = .int .u32 (Crc.reg (Crc.inv c) (s.data.toList.take k) : Nat)) (fun _ i => s.size - (intOf i).toNat)
  case atStart => exact ⟨0, Nat.zero_le _, rfl, rfl⟩
  case round =>
    obtain ⟨k, hk, rfl, rfl⟩ := hrel
    by_cases hlt : k < s.size
    · go_wp2_with (go_at_call 23; refine (refStep_any _ s[k] _ (Crc.reg_lt hi _)).mono ?_; rintro e w' ⟨rfl, rfl⟩)
      go_round
      case rel =>
        refine ⟨k + 1, by omega, by go_num, ?_⟩
        go_light
        exact val_int (by rw [reg_snoc _ _ _ hlt, Crc.step_eq])
      case measure => simp [intOf]; omega
    · go_wp2
      go_ret
      obtain rfl : k = s.size := by omega
      exact ⟨ret_int (by rw [List.take_of_length_le (by simp)]; exact flip_i (Crc.reg_lt hi _)), rfl⟩
set_option maxHeartbeats 400000 in
theorem refSum_any (s : ByteArray) (w : World) (hs : s.size ≤ maxLen) :
    Calls Tryd.prog 19 #[.string s] w fun e w' => e = .returned (.int .u32 (Crc.ext 0 s.data.toList : Nat)) ∧ w = w' := by
  go_enter Tryd.func19, Tryd.ntmps19
  go_wp2_with fail
  refine (refExt_any s 0 w hs (by decide)).mono ?_
  rintro e w' ⟨rfl, rfl⟩
  go_wp2_with fail
  go_ret
  exact ⟨rfl, rfl⟩
end Go.Proofs.YtbpphflegjebaaaDoor
