/- The contracts of the checksum's functions and of the document's. -/
import Derived.Test.YtpbofigfcdojgaaDoorKit
import Derived.Test.YtpbofigfcdojgaaDoorPCrc
import Derived.Lib.LaidTab
namespace Go.Proofs.YtpbofigfcdojgaaDoor
open Go.RowKit
set_option linter.unusedVariables false
set_option linter.unusedSimpArgs false
/-- the table as the program lays it -/
def Tab (w : World) : Prop := ∀ j, j < 16 → w.cell? ⟨0, j, none⟩ = some (.int .u32 (Crc.tab.getD j 0 : Nat))
theorem tab_of_laid {W : World} (h : laidMetH Tryd.prog [("mahout/crc.nibbles", Rows.laid_mahout_crc_nibbles)] W) : Tab W := by
  have t : Lib.TabIs Tryd.prog W "mahout/crc.nibbles" .u32 [0, 274646895, 549293790, 820201905, 1098587580, 1361435347, 1640403810, 1905808397, 2197175160, 2460548119, 2722870694, 2987750089, 3280807620, 3553878443, 3811616794, 4084100981] :=
    Lib.tabIs_of_head (rest := []) (g := 0) (t := 36) (e := 23) (by kernel_rfl) (by kernel_rfl) Tryd.underlying36 Tryd.underlying23 (by kernel_rfl) (by kernel_rfl) h
  intro j hj
  have c := t.cell (g := 0) (by kernel_rfl) j (by simpa using hj)
  rw [c]
  have : j = 0 ∨ j = 1 ∨ j = 2 ∨ j = 3 ∨ j = 4 ∨ j = 5 ∨ j = 6 ∨ j = 7 ∨ j = 8 ∨ j = 9 ∨ j = 10 ∨ j = 11 ∨ j = 12 ∨ j = 13 ∨ j = 14 ∨ j = 15 := by omega
  rcases this with rfl | rfl | rfl | rfl | rfl | rfl | rfl | rfl | rfl | rfl | rfl | rfl | rfl | rfl | rfl | rfl <;> rfl
theorem u32_nat {a : Int} (h : (Lit.int .u32 a).wf = true) : ∃ c : Nat, a = (c : Int) ∧ c < 4294967296 := by
  have hx : 0 ≤ a ∧ a ≤ 4294967295 := by simpa [Lit.wf, IntKind.min, IntKind.max, IntKind.signed, IntKind.bits] using h
  exact ⟨a.toNat, by omega, by omega⟩
def tabAt (y : Int) : Int := (Crc.tab.getD (bits .and .u32 y 15).toNat 0 : Nat)
theorem and15 (y : Int) : 0 ≤ bits .and .u32 y 15 ∧ bits .and .u32 y 15 < 16 := by
  show 0 ≤ IntKind.u32.wrap ((BitVec.ofInt 32 y &&& BitVec.ofInt 32 15).toNat : Int) ∧ _
  have h : (BitVec.ofInt 32 y &&& BitVec.ofInt 32 15).toNat < 16 := by
    rw [BitVec.toNat_and]
    exact Nat.lt_of_le_of_lt Nat.and_le_right (by decide)
  rw [show bits .and .u32 y 15 = IntKind.u32.wrap ((BitVec.ofInt 32 y &&& BitVec.ofInt 32 15).toNat : Int) from rfl, IntKind.wrap_u32']
  omega
theorem Tab.read {w : World} (h : Tab w) (y : Int) : w.cell? ⟨0, (bits .and .u32 y 15).toNat, none⟩ = some (.int .u32 (tabAt y)) :=
  h _ (by have := and15 y; omega)
theorem nib_i {x : Nat} (hx : x < 4294967296) : bits .xor .u32 ((x : Int) / 16) (tabAt x) = ((Crc.nib x : Nat) : Int) := by
  have e : ((x : Int) / 16) = ((x / 16 : Nat) : Int) := by omega
  have h15 : bits .and .u32 (x : Int) 15 = ((x % 16 : Nat) : Int) := by
    rw [show (15 : Int) = ((15 : Nat) : Int) from rfl, u32_and_nat _ _ hx (by decide), nat_mask4]
  have ht : tabAt x = ((Crc.tab.getD (x % 16) 0 : Nat) : Int) := by unfold tabAt; rw [h15]; rfl
  have hl : ∀ j, j < 16 → Crc.tab.getD j 0 < 4294967296 := by decide
  rw [ht, e, u32_xor_nat _ _ (by omega) (hl _ (by omega))]; rfl
theorem byte_i {r : Nat} (hr : r < 4294967296) (b : UInt8) : bits .xor .u32 (r : Int) ((b.toNat : Int) % 4294967296) = ((r ^^^ b.toNat : Nat) : Int) := by
  have hb := b.toNat_lt
  rw [show ((b.toNat : Int) % 4294967296) = (b.toNat : Int) by omega, u32_xor_nat _ _ hr (by omega)]
theorem nib_lt {x : Nat} (hx : x < 4294967296) : Crc.nib x < 4294967296 := by rw [Crc.nib_eq]; exact Crc.bitN_lt 4 hx
theorem step_i {r : Nat} (hr : r < 4294967296) (b : UInt8) :
    bits .xor .u32 (bits .xor .u32 (bits .xor .u32 (r : Int) ((b.toNat : Int) % 4294967296) / 16) (tabAt (bits .xor .u32 (r : Int) ((b.toNat : Int) % 4294967296))) / 16)
      (tabAt (bits .xor .u32 (bits .xor .u32 (r : Int) ((b.toNat : Int) % 4294967296) / 16) (tabAt (bits .xor .u32 (r : Int) ((b.toNat : Int) % 4294967296))))) = ((Crc.step r b.toNat : Nat) : Int) := by
  have hb := b.toNat_lt
  have h1 : r ^^^ b.toNat < 4294967296 := Nat.xor_lt_two_pow (n := 32) hr (by omega)
  rw [byte_i hr, nib_i h1, nib_i (nib_lt h1)]; rfl
theorem reg_snoc (r : Nat) (s : ByteArray) (k : Nat) (h : k < s.size) : Crc.reg r (s.data.toList.take (k + 1)) = Crc.step (Crc.reg r (s.data.toList.take k)) s[k].toNat := by
  rw [List.take_succ_eq_append_getElem (by simpa using h), Crc.reg_append]; rfl
theorem inv_i {x : Nat} (hx : x < 4294967296) : bits BinOp.xor IntKind.u32 IntKind.u32.max (x : Int) = ((Crc.inv x : Nat) : Int) := by
  rw [show IntKind.u32.max = ((4294967295 : Nat) : Int) by decide, u32_xor_nat _ _ (by decide) hx, Nat.xor_comm]; rfl
set_option maxHeartbeats 400000 in
theorem extend_any (s : ByteArray) (c : Nat) (w : World) (hs : s.size ≤ maxLen) (hc : c < 4294967296) (ht : Tab w) :
    Calls Tryd.prog 9 #[.int .u32 c, .string s] w fun e w' => e = .returned (.int .u32 (Crc.ext c s.data.toList)) ∧ w = w' := by
  unfold maxLen at hs
  have HA := and15
  have HT := ht.read
  clear ht
  have hx := inv_i hc
  have hi := Crc.inv_lt hc
  go_enter Tryd.func9, Tryd.ntmps9
  go_wp2
  clear hx
  go_loop [5, 11] (fun r i => ∃ k : Nat, k ≤ s.size ∧ i = .int .i64 k ∧ r = .int .u32 (Crc.reg (Crc.inv c) (s.data.toList.take k) : Nat)) (fun _ i => s.size - (intOf i).toNat)
  case atStart => exact ⟨0, Nat.zero_le _, rfl, rfl⟩
  case round =>
    obtain ⟨k, hk, rfl, rfl⟩ := hrel
    by_cases hlt : k < s.size
    · go_wp2
      go_round
      case rel =>
        refine ⟨k + 1, by omega, by go_num, ?_⟩
        go_light
        exact val_int (by rw [reg_snoc _ _ _ hlt]; exact step_i (Crc.reg_lt hi _) _)
      case measure => simp [intOf]; omega
    · go_wp2
      go_ret
      obtain rfl : k = s.size := by omega
      exact ⟨ret_int (by rw [List.take_of_length_le (by simp)]; exact inv_i (Crc.reg_lt hi _)), rfl⟩
theorem Tab.below {w w' : World} (h : Tab w) (hb : Below w.heap.size w w') : Tab w' := fun j hj => (hb.cell (p := ⟨0, j, none⟩) (World.block_lt_of_cell? w _ (h j hj))).trans (h j hj)
set_option maxHeartbeats 400000 in
theorem sum_any (s : ByteArray) (w : World) (hs : s.size ≤ maxLen) (ht : Tab w) :
    Calls Tryd.prog 7 #[.string s] w fun e w' => e = .returned (.int .u32 (Crc.ext 0 s.data.toList)) ∧ w = w' := by
  have HT : Hid (Tab w) := Lib.hid ht
  clear ht
  go_enter Tryd.func7, Tryd.ntmps7
  go_wp2_with fail
  refine (extend_any s 0 w hs (by decide) HT.out).mono ?_
  rintro e w' ⟨rfl, rfl⟩
  go_wp2_with fail
  go_ret
  exact ⟨rfl, rfl⟩
end Go.Proofs.YtpbofigfcdojgaaDoor
