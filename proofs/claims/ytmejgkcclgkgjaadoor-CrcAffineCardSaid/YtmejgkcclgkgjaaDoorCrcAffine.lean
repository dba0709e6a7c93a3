/- Of three texts of one length and the one that has their bits added the checksums add up to nothing. -/
import Derived.Test.YtmejgkcclgkgjaaDoorCrcSums
namespace Go.Proofs.YtmejgkcclgkgjaaDoor
open Go.RowKit
set_option linter.unusedVariables false
set_option linter.unusedSimpArgs false
theorem info_u8 : (Tryd.prog.info? 5).map (fun i => (i.zero, i.size, i.bytes)) = some (some (.int .u8 0), 1, 1) := by kernel_rfl
def xor3 (a b c : ByteArray) (j : Nat) : UInt8 := a.data.toList.getD j 0 ^^^ b.data.toList.getD j 0 ^^^ c.data.toList.getD j 0
def mix (a b c : ByteArray) (k m : Nat) : List Value := (List.range m).map fun j => .int .u8 (if j < k then ((xor3 a b c j).toNat : Int) else 0)
theorem mix_get (a b c : ByteArray) (k m : Nat) (h : k < m) : (mix a b c k m)[k]? = some (.int .u8 0) := by
  simp [mix, h]
theorem mix_set (a b c : ByteArray) (k m : Nat) (h : k < m) (ka : k < a.size) (kb : k < b.size) (kc : k < c.size) :
    (mix a b c k m).set k (.int .u8 (bits BinOp.xor IntKind.u8 (bits BinOp.xor IntKind.u8 (a[k].toNat : Int) (b[k].toNat : Int)) (c[k].toNat : Int))) = mix a b c (k + 1) m := by
  have e : bits BinOp.xor IntKind.u8 (bits BinOp.xor IntKind.u8 (a[k].toNat : Int) (b[k].toNat : Int)) (c[k].toNat : Int) = ((xor3 a b c k).toNat : Int) := by
    have h1 := a[k].toNat_lt; have h2 := b[k].toNat_lt; have h3 := c[k].toNat_lt
    rw [u8_xor_nat _ _ (by omega) (by omega), u8_xor_nat _ _ (Nat.xor_lt_two_pow (n := 8) (by omega) (by omega)) (by omega)]
    unfold xor3
    rw [UInt8.toNat_xor, UInt8.toNat_xor]
    simp [List.getD_eq_getElem?_getD, ka, kb, kc]
    rfl
  rw [e]
  apply List.ext_getElem?
  intro j
  unfold mix
  rw [List.getElem?_set]
  by_cases hj : k = j
  · subst hj; simp [h]
  · rw [if_neg hj]
    by_cases hm : j < m
    · simp [hm]
      by_cases h1 : j < k
      · simp [h1, show j < k + 1 by omega]
      · simp [h1, show ¬ j < k + 1 by omega]
    · simp [hm]
theorem mix_zero (a b c : ByteArray) (m : Nat) : (madeCells (Value.int IntKind.u8 0).cells (m * 1)).toList = mix a b c 0 m := by
  simp [mix, Value.cells, toList_madeCells_one]
  rw [List.map_const']; simp
def mixStr (a b c : ByteArray) (k : Nat) : ByteArray := strOfNums ((List.range k).map fun j => ((xor3 a b c j).toNat : Int))
theorem mixStr_size (a b c : ByteArray) (k : Nat) : (mixStr a b c k).size = k := by rw [mixStr, strOfNums_size]; simp
theorem mixStr_data (a b c : ByteArray) (k : Nat) (ha : k ≤ a.size) (hb : k ≤ b.size) (hc : k ≤ c.size) : (mixStr a b c k).data.toList =
    List.zipWith (· ^^^ ·) (List.zipWith (· ^^^ ·) (a.data.toList.take k) (b.data.toList.take k)) (c.data.toList.take k) := by
  rw [mixStr, strOfNums_data]
  have la : a.data.toList.length = a.size := by simp
  have lb : b.data.toList.length = b.size := by simp
  have lc : c.data.toList.length = c.size := by simp
  apply List.ext_getElem?
  intro j
  simp only [List.map_map, List.drop_zero, Nat.sub_zero, List.getElem?_zipWith, List.getElem?_take, List.getElem?_map]
  by_cases h : j < k
  · simp [h, xor3, show j < a.size by omega, show j < b.size by omega, show j < c.size by omega]
  · simp [h]
theorem aff_end (a b c : ByteArray) (k : Nat) (ha : k ≤ a.size) (hb : k ≤ b.size) (hc : k ≤ c.size) :
    (bits .xor .u32 (bits .xor .u32 ((Crc.ext 0 (a.data.toList.take k) : Nat) : Int) ((Crc.ext 0 (b.data.toList.take k) : Nat) : Int)) ((Crc.ext 0 (c.data.toList.take k) : Nat) : Int)
      == ((Crc.ext 0 (mixStr a b c k).data.toList : Nat) : Int)) = true := by
  have h1 := Crc.ext_lt (c := 0) (by decide) (a.data.toList.take k)
  have h2 := Crc.ext_lt (c := 0) (by decide) (b.data.toList.take k)
  have h3 := Crc.ext_lt (c := 0) (by decide) (c.data.toList.take k)
  rw [u32_xor_nat _ _ h1 h2, u32_xor_nat _ _ (Nat.xor_lt_two_pow (n := 32) h1 h2) h3, mixStr_data a b c k ha hb hc, ← Crc.ext_affine _ _ _ (by simp; omega) (by simp; omega)]
  simp
theorem mix_full (a b c : ByteArray) (k i : Nat) (h : i < k) : (mix a b c k k)[i]? = some (.int .u8 (((List.range k).map fun j => ((xor3 a b c j).toNat : Int)).getD i 0)) := by
  simp [mix, h]
set_option maxHeartbeats 400000 in
theorem crcAffine_walk0 (a b c : ByteArray) (ha : a.size ≤ 140737488351232) (hb : b.size ≤ 140737488351232) (hc : c.size ≤ 140737488351232) (w : World) (ht : Tab w) :
    Calls Tryd.prog 5 #[.string a, .string b, .string c] w fun e w' => e = .returned (.bool true) ∧ Below w.heap.size w w' := by
  have HT : Hid (Tab w) := Lib.hid ht
  clear ht
  obtain ⟨i0, hi, hz0, hz1, hz2⟩ := info_parts info_u8
  have HI := Lib.hid hi; have HZ0 := Lib.hid hz0; have HZ1 := Lib.hid hz1; have HZ2 := Lib.hid hz2
  clear hi hz0 hz1 hz2
  go_enter Tryd.func5, Tryd.ntmps5
  go_upto_region 1 with (fail)
  go_cut [7] (fun v wc => wc = w ∧ ∃ m : Nat, v = .int .i64 m ∧ m ≤ a.size ∧ m ≤ b.size ∧ m ≤ c.size)
  case first =>
    go_wp2
    all_goals go_meet
    all_goals exact ⟨rfl, _, rfl, by omega, by omega, by omega⟩
  case rest =>
    obtain ⟨rfl, m, rfl, ma, mb, mc⟩ := hcut
    go_wp2_with (refine wpList_make_full _ rfl _ _ 27 rfl wc.heap.size 5 i0 (.int .u8 0) 1 Tryd.underlying27 HI.out HZ0.out HZ1.out .i64 .i64 _ _ m rfl rfl rfl rfl (by rw [HZ2.out]; omega) (by unfold maxLen; omega) (Nat.le_refl _) ?_; intro w1 hown hgrow)
    have HB : Hid (Below wc.heap.size wc w1) := Lib.hid ⟨hgrow.os, hgrow.tape, hgrow.output, hgrow.size, fun i hi => hgrow.block i hi (by simp)⟩
    have HO := Lib.hid hown
    clear hgrow hown
    go_loopw [9] (fun i wr => ∃ k : Nat, i = .int .i64 k ∧ k ≤ m ∧ wr.ownsRow wc.heap.size 5 1 (.slice (some ⟨wc.heap.size, 0, none⟩) m m) m (mix a b c k m) ∧ Below wc.heap.size wc wr) (fun i _ => m - (intOf i).toNat)
    case atStart => exact ⟨0, rfl, by omega, by rw [← mix_zero]; exact HO.out, HB.out⟩
    case round =>
      obtain ⟨k, rfl, hk, hO, hB⟩ := hrel
      have HO := Lib.hid hO
      have HB := Lib.hid hB
      clear hO hB
      by_cases hlt : k < m
      · have c0 := (HO.out.cellAt k (by omega)).trans (mix_get a b c k m hlt)
        have f0 := HO.out.frozenAt k
        go_upto_region 6 with (fail)
        have ka : k < a.size := by omega
        have kb : k < b.size := by omega
        have kc : k < c.size := by omega
        go_region
        go_wp2
        have hst := HO.out.stored k (Value.int .u8 (bits BinOp.xor IntKind.u8 (bits BinOp.xor IntKind.u8 ↑a[k].toNat ↑b[k].toNat) ↑c[k].toNat))
        go_roundw
        case rel => exact ⟨k + 1, by go_num, by omega, by rw [mix_set a b c k m hlt ka kb kc] at hst; exact hst.1.drew, (HB.out.setCell (Nat.le_refl _) _).drew⟩
        case measure => simp [intOf]; omega
      · obtain rfl : k = m := by omega
        have hconv : ∀ n, (convert 27 9 (.slice (some ⟨wc.heap.size, 0, none⟩) k k)).run Tryd.prog (wr.drewN n) = .ok (.string (mixStr a b c k)) (wr.drewN n) := fun n => by
          rw [mixStr]
          refine run_convert_bytes_arg (P := Tryd.prog) (w := wr.drewN n) 27 5 Tryd.underlying27 Tryd.underlying5 wc.heap.size 0 k k _ (by simp) ?_ 9 Tryd.underlying9
          intro i hi'
          rw [Nat.zero_add]
          exact (HO.out.cellAt i (by omega)).trans (mix_full a b c k i hi')
        have HTr : Hid (Tab wr) := Lib.hid (HT.out.below HB.out)
        have sa : (a.extract 0 k).size ≤ maxLen := by unfold maxLen; simp; omega
        go_upto_region 7 with (fail)
        go_quiet ((first | (go_at_call 10; refine quiet_of (crcSpeaks_any _ (by exact HTr.out))) | (go_at_call 11; refine quiet_of (sum_any _ _ (by unfold maxLen; first | (rw [mixStr_size]; omega) | (simp; omega)) (by exact HTr.out)))))
        go_wp2
        go_ret
        exact ⟨ret_bool (aff_end a b c k ma mb mc), below_drewN HB.out _⟩
theorem crcAffine_walk (a0 : ByteArray) (w0 : a0.size ≤ 140737488351232) (a1 : ByteArray) (w1 : a1.size ≤ 140737488351232) (a2 : ByteArray) (w2 : a2.size ≤ 140737488351232) (W : World) (hL : laidMetH Tryd.prog Rows.crcAffineRow.laid W) :
    Calls Tryd.prog 5 #[.string a0, .string a1, .string a2] W fun e w' => e = .returned (.bool true) ∧ Below W.heap.size W w' :=
  crcAffine_walk0 a0 a1 a2 w0 w1 w2 W (tab_of_laid hL)
end Go.Proofs.YtmejgkcclgkgjaaDoor
