/- No change of up to four bytes in a row goes unseen. -/
import Derived.Test.YtmejgkcclgkgjaaDoorCrcSums
import Derived.Lib.ConvBytes
namespace Go.Proofs.YtmejgkcclgkgjaaDoor
open Go.RowKit
set_option linter.unusedVariables false
set_option linter.unusedSimpArgs false
theorem bytesWorld_below (w : World) (e : TypeId) (s : ByteArray) : Below w.heap.size w (Lib.bytesWorld w e s) :=
  ⟨rfl, rfl, rfl, by rw [Lib.bytesWorld_size]; omega, fun k hk => Lib.bytesWorld_at_old w e s k hk⟩
theorem bytesWorld_cells (w : World) (e : TypeId) (s : ByteArray) : Cells (Lib.bytesWorld w e s) w.heap.size (bytes s.data.toList) := by
  intro j hj
  rw [bytes_length] at hj
  have hj' : j < s.size := by simpa using hj
  refine ⟨?_, ?_⟩
  · rw [Lib.bytesWorld_cell w e s j hj']
    simp [bytes, hj']
  · simp [World.frozen?, Lib.bytesWorld_at_new, Lib.bytesCells]
    omega
theorem xbyte_i (c k : Nat) : (c : Int) / 2 ^ (8 * k) % 256 = ((Crc.xbyte c k).toNat : Int) := by
  unfold Crc.xbyte
  rw [UInt8.toNat_ofNat']
  have : ((2 : Int) ^ (8 * k)) = ((2 ^ (8 * k) : Nat) : Int) := by simp
  rw [this, ← Int.natCast_ediv]
  rfl
theorem brst_size (s : ByteArray) (m c k : Nat) : (⟨(Crc.brst s.data.toList m c k).toArray⟩ : ByteArray).size = s.size := by
  show ((Crc.brst s.data.toList m c k).toArray).size = s.data.size
  simp [Crc.brst]
set_option maxHeartbeats 400000 in
theorem crcBursts_walk1 (s : ByteArray) (hs : s.size ≤ 140737488351232) (at0 : Int) (c : Nat) (hc : c < 4294967296) (hc0 : ((c : Int) == 0) = false) (hs0 : ((s.size : Int) == 0) = false) (hs1 : 0 < s.size) (w : World) (ht : Tab w) :
    Calls Tryd.prog 4 #[.string s, .int .i64 at0, .int .u32 c] w fun e w' => e = .returned (.bool true) ∧ Below w.heap.size w w' := by
  have HT : Hid (Tab w) := Lib.hid ht
  clear ht
  go_enter Tryd.func4, Tryd.ntmps4
  go_wp2_with fail
  refine (crcSpeaks_any _ HT.out).mono ?_
  rintro e w' ⟨rfl, rfl⟩
  go_upto_region 5 with (fail)
  go_cut [27] (fun v wc => w = wc ∧ v = .bool (decide (at0 < 0) || decide ((s.size : Int) ≤ at0)))
  case first =>
    go_wp2_with fail
    all_goals go_meet
    all_goals exact ⟨rfl, by first | rfl | (congr 1; simp; omega)⟩
  obtain ⟨rfl, rfl⟩ := hcut
  go_upto_if 27 with (fail)
  go_cut [1] (fun v wc => w = wc ∧ ∃ m : Nat, v = .int .i64 m ∧ m < s.size)
  case first =>
    go_wp2_with fail
    all_goals go_meet
    · exact ⟨rfl, 0, rfl, hs1⟩
    · exact ⟨rfl, at0.toNat, by go_num, by omega⟩
  case rest =>
    obtain ⟨rfl, m, rfl, hm⟩ := hcut
    have hcv := fun w => Lib.run_convert_string_bytes (P := Tryd.prog) w 9 27 5 s Tryd.underlying9 Tryd.underlying27 Tryd.underlying5
    go_wp2_with fail
    clear hcv
    have HB : Hid (Below w.heap.size w (Lib.bytesWorld w 5 s)) := Lib.hid (bytesWorld_below w 5 s)
    have HC : Hid (Cells (Lib.bytesWorld w 5 s) w.heap.size (bytes s.data.toList)) := Lib.hid (bytesWorld_cells w 5 s)
    have hsz := Lib.bytesWorld_size w 5 s
    generalize Lib.bytesWorld w 5 s = wb at HB HC hsz ⊢
    have HS := Lib.hid hsz
    clear hsz
    go_loopw [8, 9] (fun sn i wr => ∃ k : Nat, i = .int .i64 k ∧ k ≤ 4 ∧ sn = .bool (Crc.bseen s.size m c k) ∧ Hid (Cells wr w.heap.size (bytes (Crc.brst s.data.toList m c k))) ∧ Hid (Below w.heap.size w wr)) (fun _ i _ => 4 - (intOf i).toNat)
    case atStart => exact ⟨0, rfl, by omega, rfl, Lib.hid (by rw [Crc.brst_zero]; exact HC.out), HB⟩
    case round =>
      clear HB HC
      obtain ⟨k, rfl, hk, rfl, HC, HB⟩ := hrel
      by_cases hlt : k < 4
      · have hX := xbyte_i c k
        have hsn := Lib.hid (Crc.bseen_succ s.size m c k)
        have hb0 := Lib.hid (Crc.brst_none s.data.toList m c k)
        have hb1 := Lib.hid (Crc.brst_out s.data.toList m c k)
        have hb2 := Lib.hid (fun a => Crc.brst_in s.data.toList m c k (a := a))
        generalize Crc.xbyte c k = x at hX hsn hb0 hb1 hb2
        by_cases hx : x = 0
        · subst hx
          go_wp2_with fail
          go_roundw
          case rel => exact ⟨k + 1, by go_num, by omega, by rw [hsn.out]; simp, by rw [hb0.out rfl]; exact HC, HB⟩
          case measure => simp [intOf]; omega
        · have hx1 : ((x.toNat : Int) != 0) = true := by
            have : x.toNat ≠ 0 := fun h => hx (UInt8.toNat_inj.1 (by simpa using h))
            simp; omega
          by_cases hin : m + k < s.size
          · have hg := (List.getElem?_eq_getElem (l := Crc.brst s.data.toList m c k) (i := m + k) (by simpa [Crc.brst] using hin))
            generalize (Crc.brst s.data.toList m c k)[m + k]'(by simpa [Crc.brst] using hin) = old at hg
            obtain ⟨hc1, hc2⟩ := HC.out.get (bytes_get hg)
            have hg := Lib.hid hg
            have hst := HC.out.set (m + k) (.int .u8 (bits .xor .u8 (old.toNat : Int) (x.toNat : Int))) (by rw [bytes_length]; simpa [Crc.brst] using hin)
            rw [u8_xor_nat _ _ old.toNat_lt x.toNat_lt, ← UInt8.toNat_xor, bytes_set, ← hb2.out _ hg.out] at hst
            have e8 : bits .xor .u8 (old.toNat : Int) (x.toNat : Int) = ((old ^^^ x).toNat : Int) := by rw [u8_xor_nat _ _ old.toNat_lt x.toNat_lt, ← UInt8.toNat_xor]
            have hst := Lib.hid hst
            go_wp2_with fail
            go_roundw
            case rel => exact ⟨k + 1, by go_num, by omega, by rw [hsn.out]; simp [hin, hx], hst, Lib.hid (HB.out.setCell (Nat.le_refl _) _)⟩
            case measure => simp [intOf]; omega
          · go_wp2_with fail
            go_roundw
            case rel => exact ⟨k + 1, by go_num, by omega, by rw [hsn.out]; simp [hin], by rw [hb1.out (by simpa using hin)]; exact HC, HB⟩
            case measure => simp [intOf]; omega
      · obtain rfl : k = 4 := by omega
        have hfin := Lib.hid (Crc.burst_seen s.data.toList m c (by simpa using hm))
        have hcv : ∀ n, (convert 27 9 (.slice (some ⟨w.heap.size, 0, none⟩) s.size n)).run Tryd.prog wr = .ok (.string ⟨(Crc.brst s.data.toList m c 4).toArray⟩) wr := fun n =>
          conv_bytes HC.out _ _ 5 _ Tryd.underlying27 Tryd.underlying5 Tryd.underlying9 _ (by simp [Crc.brst])
        have HTr : Hid (Tab wr) := Lib.hid (HT.out.below HB.out)
        by_cases hsn : Crc.bseen s.size m c 4 = true
        · rw [hsn]
          have hsn := Lib.hid hsn
          go_wp2_with (go_at_call 11; refine (sum_any _ _ (by unfold maxLen; first | (rw [brst_size]; omega) | omega) (by exact HTr.out)).mono ?_; rintro e w' ⟨rfl, rfl⟩)
          go_ret
          exact ⟨ret_bool (by have := hfin.out (by simpa using hsn.out); simp; omega), HB.out⟩
        · rw [Bool.eq_false_iff.2 hsn]
          go_wp2_with fail
          go_ret
          exact ⟨rfl, HB.out⟩
set_option maxHeartbeats 400000 in
theorem crcBursts_walk0 (s : ByteArray) (at0 : Int) (c : Nat) (w : World) (ht : Tab w) (h : s.size = 0 ∨ c = 0) :
    Calls Tryd.prog 4 #[.string s, .int .i64 at0, .int .u32 c] w fun e w' => e = .returned (.bool true) ∧ Below w.heap.size w w' := by
  have HT : Hid (Tab w) := Lib.hid ht
  clear ht
  by_cases h0 : s.size = 0
  · have hs0 : ((s.size : Int) == 0) = true := by rw [h0]; rfl
    clear h h0
    go_enter Tryd.func4, Tryd.ntmps4
    go_wp2_with fail
    refine (crcSpeaks_any _ HT.out).mono ?_
    rintro e w' ⟨rfl, rfl⟩
    go_wp2_with fail
    go_ret
    exact ⟨rfl, Below.refl _ _⟩
  · have hs0 : ((s.size : Int) == 0) = false := beq0 h0
    obtain rfl : c = 0 := by omega
    clear h h0
    go_enter Tryd.func4, Tryd.ntmps4
    go_wp2_with fail
    refine (crcSpeaks_any _ HT.out).mono ?_
    rintro e w' ⟨rfl, rfl⟩
    go_wp2_with fail
    go_ret
    exact ⟨rfl, Below.refl _ _⟩
theorem crcBursts_walk (a0 : ByteArray) (w0 : a0.size ≤ 140737488351232) (a1 : Int) (w1 : (Lit.int .i64 a1).wf = true) (a2 : Int) (w2 : (Lit.int .u32 a2).wf = true) (W : World) (hL : laidMetH Tryd.prog Rows.crcBurstsRow.laid W) :
    Calls Tryd.prog 4 #[.string a0, .int .i64 a1, .int .u32 a2] W fun e w' => e = .returned (.bool true) ∧ Below W.heap.size W w' := by
  obtain ⟨c, rfl, hc⟩ := u32_nat w2
  by_cases h : a0.size = 0 ∨ c = 0
  · exact crcBursts_walk0 a0 a1 c W (tab_of_laid hL) h
  · exact crcBursts_walk1 a0 w0 a1 c hc (beq0 (by omega)) (beq0 (by omega)) (by omega) W (tab_of_laid hL)
end Go.Proofs.YtmejgkcclgkgjaaDoor
