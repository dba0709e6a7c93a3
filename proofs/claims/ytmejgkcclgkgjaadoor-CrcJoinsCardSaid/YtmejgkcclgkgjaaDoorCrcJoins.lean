/- Join at every two numbers and length. -/
import Derived.Test.YtmejgkcclgkgjaaDoorCrcJoin
import Derived.Test.YtmejgkcclgkgjaaDoorCrcSums
namespace Go.Proofs.YtmejgkcclgkgjaaDoor
open Go.RowKit
set_option linter.unusedVariables false
set_option linter.unusedSimpArgs false
theorem step0 (r : Nat) : Crc.refStep r 0 = Crc.bitN 8 r := by simp [Crc.refStep]
set_option maxHeartbeats 1000000 in
theorem refJoin_no (a b : Int) (n : Int) (hn : n < 0 ∨ 65536 < n) (w : World) :
    Calls Tryd.prog 21 #[.int .u32 a, .int .u32 b, .int .i64 n] w fun e w' => e = .returned (.tuple #[.int .u32 0, .bool false]) ∧ w = w' := by
  rcases hn with h | h
  · go_enter Tryd.func21, Tryd.ntmps21
    go_wp2
    go_ret2
    exact ⟨rfl, rfl⟩
  · have h0 : ¬ n < 0 := by omega
    go_enter Tryd.func21, Tryd.ntmps21
    go_wp2
    go_ret2
    exact ⟨rfl, rfl⟩
set_option maxHeartbeats 1000000 in
theorem refJoin_any (a b : Nat) (ha : a < 4294967296) (hb : b < 4294967296) (n : Nat) (hn : n ≤ 65536) (w : World) :
    Calls Tryd.prog 21 #[.int .u32 a, .int .u32 b, .int .i64 n] w fun e w' => e = .returned (.tuple #[.int .u32 (Crc.bitN (8 * n) a ^^^ b : Nat), .bool true]) ∧ w = w' := by
  have hx := flip_i ha
  have hi := Crc.inv_lt ha
  go_enter Tryd.func21, Tryd.ntmps21
  go_wp2
  clear hx
  go_loop [8, 9, 10] (fun x y i => ∃ k : Nat, k ≤ n ∧ i = .int .i64 k ∧ x = .int .u32 (Crc.bitN (8 * k) (Crc.inv a) : Nat) ∧ y = .int .u32 (Crc.bitN (8 * k) 4294967295 : Nat)) (fun _ _ i => n - (intOf i).toNat)
  case atStart => exact ⟨0, by omega, rfl, rfl, rfl⟩
  case round =>
    obtain ⟨k, hk, rfl, rfl, rfl⟩ := hrel
    have h1 := Crc.bitN_lt (8 * k) hi
    have h2 := Crc.bitN_lt (8 * k) (show 4294967295 < 4294967296 by decide)
    have e1 := Lib.hid (Crc.bitN_add (8 * k) 8 (Crc.inv a))
    have e2 := Lib.hid (Crc.bitN_add (8 * k) 8 4294967295)
    generalize hp : Crc.bitN (8 * k) (Crc.inv a) = p at h1 e1
    generalize hq : Crc.bitN (8 * k) 4294967295 = q at h2 e2
    have hp := Lib.hid hp
    have hq := Lib.hid hq
    by_cases hlt : k < n
    · go_wp2_with (go_at_call 22; refine (refStep_any _ 0 _ (by omega)).mono ?_; rintro e w' ⟨rfl, rfl⟩)
      go_round
      case rel => exact ⟨k + 1, by omega, by go_num, val_int (by rw [Nat.mul_add, e1.out]; simp [step0]), val_int (by rw [Nat.mul_add, e2.out]; simp [step0])⟩
      case measure => simp [intOf]; omega
    · obtain rfl : k = n := by omega
      have x1 := u32_xor_nat p 4294967295 h1 (by decide)
      have l1 : p ^^^ 4294967295 < 4294967296 := Nat.xor_lt_two_pow (n := 32) h1 (by decide)
      have x2 := u32_xor_nat _ b l1 hb
      have l2 : p ^^^ 4294967295 ^^^ b < 4294967296 := Nat.xor_lt_two_pow (n := 32) l1 hb
      have x3 := u32_xor_nat _ q l2 h2
      have l3 : p ^^^ 4294967295 ^^^ b ^^^ q < 4294967296 := Nat.xor_lt_two_pow (n := 32) l2 h2
      have x4 := u32_xor_nat _ 4294967295 l3 (by decide)
      have X1 := Lib.hid x1; have X2 := Lib.hid x2; have X3 := Lib.hid x3; have X4 := Lib.hid x4
      clear x1 x2 x3 x4 l1 l2 l3
      go_wp2
      go_ret2
      refine ⟨?_, rfl⟩
      have hf := Crc.ref_join a k b
      rw [hp.out, hq.out] at hf
      rw [← hf]
      show Ending.returned (.tuple #[.int .u32 (bits .xor .u32 (bits .xor .u32 (bits .xor .u32 (bits .xor .u32 (p : Int) 4294967295) (b : Int)) (q : Int)) 4294967295), .bool true]) = _
      rw [show (4294967295 : Int) = ((4294967295 : Nat) : Int) from rfl, X1.out, X2.out, X3.out, X4.out]
set_option maxHeartbeats 1000000 in
theorem crcJoins_walk (a0 : Int) (w0 : (Lit.int .u32 a0).wf = true) (a1 : Int) (w1 : (Lit.int .u32 a1).wf = true) (a2 : Int) (w2 : (Lit.int .i64 a2).wf = true) (W : World) (hL : laidMetH Tryd.prog Rows.crcJoinsRow.laid W) :
    Calls Tryd.prog 9 #[.int .u32 a0, .int .u32 a1, .int .i64 a2] W fun e w' => e = .returned (.bool true) ∧ Below W.heap.size W w' := by
  have HT := Lib.hid (tab_of_laid hL)
  clear hL
  obtain ⟨a, rfl, ha⟩ := u32_nat w0
  obtain ⟨b, rfl, hb⟩ := u32_nat w1
  clear w0 w1 w2
  by_cases h : 0 ≤ a2 ∧ a2 ≤ 65536
  · obtain ⟨n, rfl⟩ : ∃ n : Nat, a2 = n := ⟨a2.toNat, by omega⟩
    have hn : n ≤ 65536 := by omega
    go_enter Tryd.func9, Tryd.ntmps9
    go_wp2_with fail
    refine (crcSpeaks_any _ HT.out).mono ?_
    rintro e w' ⟨rfl, rfl⟩
    go_wp2_with fail
    refine (join_any a b ha hb n hn _ HT.out).mono ?_
    rintro e w1 ⟨rfl, hb1⟩
    have HB := Lib.hid hb1
    clear hb1
    go_wp2_with fail
    refine (refJoin_any a b ha hb n hn _).mono ?_
    rintro e w' ⟨rfl, rfl⟩
    go_wp2_with fail
    go_ret
    exact ⟨rfl, HB.out⟩
  · go_enter Tryd.func9, Tryd.ntmps9
    go_wp2_with fail
    refine (crcSpeaks_any _ HT.out).mono ?_
    rintro e w' ⟨rfl, rfl⟩
    go_wp2_with fail
    refine (join_no a b a2 (by omega) _).mono ?_
    rintro e w1 ⟨rfl, rfl⟩
    go_wp2_with fail
    refine (refJoin_no a b a2 (by omega) _).mono ?_
    rintro e w' ⟨rfl, rfl⟩
    go_wp2_with fail
    go_ret
    exact ⟨rfl, Below.refl _ _⟩
end Go.Proofs.YtmejgkcclgkgjaaDoor
