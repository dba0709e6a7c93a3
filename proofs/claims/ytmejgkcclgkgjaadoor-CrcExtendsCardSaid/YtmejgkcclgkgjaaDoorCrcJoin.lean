/- Matrices of the checksum, and Join. -/
import Derived.Test.YtmejgkcclgkgjaaDoorCrcRef
import Derived.Deep.WholeRow
namespace Go.Proofs.YtmejgkcclgkgjaaDoor
open Go.RowKit
set_option linter.unusedVariables false
set_option linter.unusedSimpArgs false
def u32s (m : List Nat) : List Value := m.map fun n : Nat => .int .u32 (n : Int)
theorem ofL_zero (m : List Nat) : Crc.ofL m 0 = 0 := by
  induction m with
  | nil => rfl
  | cons c m ih => simp [Crc.ofL, ih]
theorem ofL_lt (m : List Nat) (h : ∀ c ∈ m, c < 4294967296) (r : Nat) : Crc.ofL m r < 4294967296 := by
  induction m generalizing r with
  | nil => exact Nat.lt_of_lt_of_le (by decide : 0 < 4294967296) (Nat.le_refl _)
  | cons c m ih =>
    unfold Crc.ofL
    refine Nat.xor_lt_two_pow (n := 32) ?_ (ih (fun x hx => h x (List.mem_cons_of_mem _ hx)) _)
    have := h c (List.mem_cons_self ..)
    split <;> omega
theorem ofL_step (m : List Nat) (i r : Nat) (h : i < m.length) : Crc.ofL (m.drop i) r = (if r % 2 = 1 then m.getD i 0 else 0) ^^^ Crc.ofL (m.drop (i + 1)) (r / 2) := by
  rw [List.drop_eq_getElem_cons h, Crc.ofL]
  simp [List.getD_eq_getElem?_getD, h]
set_option maxHeartbeats 400000 in
theorem of_any (B : Nat) (m : List Nat) (hm : m.length = 32) (hlt : ∀ c ∈ m, c < 4294967296) (r0 : Nat) (hr : r0 < 4294967296) (w : World) (hC : Cells w B (u32s m)) :
    Calls Tryd.prog 26 #[.pointer (some ⟨B, 0, none⟩), .int .u32 r0] w fun e w' => e = .returned (.int .u32 (Crc.ofL m r0 : Nat)) ∧ w = w' := by
  have HC : Hid (Cells w B (u32s m)) := Lib.hid hC
  have HM := Lib.hid hm
  have HL := Lib.hid hlt
  clear hC hm hlt
  go_enter Tryd.func26, Tryd.ntmps26
  go_wp2
  go_loop [1, 5, 6] (fun r out i => ∃ (k q o : Nat), i = .int .i64 k ∧ k ≤ 32 ∧ r = .int .u32 q ∧ out = .int .u32 o ∧ o < 4294967296 ∧ q < 4294967296 ∧ Hid (q < 2 ^ (32 - k)) ∧ Hid (o ^^^ Crc.ofL (m.drop k) q = Crc.ofL m r0)) (fun r _ _ => (intOf r).toNat)
  case atStart => exact ⟨0, r0, 0, rfl, by omega, rfl, rfl, by omega, hr, Lib.hid (by simpa using hr), Lib.hid (by simp)⟩
  case round =>
    obtain ⟨k, q, o, rfl, hk, rfl, rfl, ho, hq, HQ, HE⟩ := hrel
    by_cases h0 : q = 0
    · subst h0
      go_wp2
      go_ret
      exact ⟨ret_int (by have := HE.out; rw [ofL_zero, Nat.xor_zero] at this; rw [this]), rfl⟩
    · have hb : ((q : Int) != 0) = true := by simp; omega
      have hk32 : k < 32 := by
        rcases Nat.lt_or_ge k 32 with h | h
        · exact h
        · have := HQ.out; rw [show 32 - k = 0 by omega] at this; simp at this; omega
      have ha := and1_i hq
      have hstep := Lib.hid (ofL_step m k q (by rw [HM.out]; exact hk32))
      have hq2 : Hid (q / 2 < 2 ^ (32 - (k + 1))) := Lib.hid (by
        have := HQ.out
        rw [show 32 - k = (32 - (k + 1)) + 1 by omega, Nat.pow_succ] at this
        omega)
      rcases Nat.mod_two_eq_zero_or_one q with h2 | h2
      · rw [h2] at ha
        have h2 := Lib.hid h2
        go_wp2
        go_round
        case rel => exact ⟨k + 1, q / 2, o, by go_num, by omega, val_int (by omega), rfl, ho, by omega, hq2, Lib.hid (by have := HE.out; rw [hstep.out, if_neg (by rw [h2.out]; decide), Nat.zero_xor] at this; exact this)⟩
        case measure => simp [intOf]; omega
      · rw [h2] at ha
        have h2 := Lib.hid h2
        have hc : w.cell? ⟨B, k, none⟩ = some (.int .u32 (m.getD k 0 : Nat)) := (HC.out.get (j := k) (by simp [u32s, List.getD_eq_getElem?_getD, HM.out, hk32])).1
        have hml : m.getD k 0 < 4294967296 := HL.out _ (by rw [List.getD_eq_getElem?_getD, List.getElem?_eq_getElem (by rw [HM.out]; exact hk32)]; simp)
        generalize m.getD k 0 = c at hc hml hstep
        have hx := u32_xor_nat o c ho hml
        have hol : o ^^^ c < 4294967296 := Nat.xor_lt_two_pow (n := 32) ho hml
        go_wp2
        go_round
        case rel => exact ⟨k + 1, q / 2, o ^^^ c, by go_num, by omega, val_int (by omega), rfl, hol, by omega, hq2, Lib.hid (by have := HE.out; rw [hstep.out, if_pos h2.out, ← Nat.xor_assoc] at this; exact this)⟩
        case measure => simp [intOf]; omega
/-- the first k of the columns -/
def part32 (f : Nat → Nat) (k : Nat) : List Nat := (List.range 32).map fun i => if i < k then f i else 0
theorem part32_set (f : Nat → Nat) (k : Nat) : (part32 f k).set k (f k) = part32 f (k + 1) := by
  apply List.ext_getElem?
  intro j
  rw [List.getElem?_set]
  unfold part32
  by_cases e : k = j
  · subst e
    by_cases h : k < 32 <;> simp [h]
  · by_cases h : j < 32
    · simp [e, h]
      by_cases h1 : j < k
      · simp [h1, show j < k + 1 by omega]
      · simp [h1, show ¬ j < k + 1 by omega]
    · simp [e, h]
theorem part32_length (f : Nat → Nat) (k : Nat) : (part32 f k).length = 32 := by simp [part32]
theorem u32s_set (m : List Nat) (k c : Nat) : (u32s m).set k (.int .u32 (c : Int)) = u32s (m.set k c) := by simp [u32s, List.map_set]
theorem u32s_length (m : List Nat) : (u32s m).length = m.length := by simp [u32s]
theorem u32s_one (m : List Nat) : (u32s m).all (·.oneCell') = true := by
  rw [List.all_eq_true]; intro v hv
  obtain ⟨n, _, rfl⟩ := List.mem_map.1 hv
  rfl
theorem u32s_zero (f : Nat → Nat) : (#[Value.int .u32 0, .int .u32 0, .int .u32 0, .int .u32 0, .int .u32 0, .int .u32 0, .int .u32 0, .int .u32 0, .int .u32 0, .int .u32 0, .int .u32 0, .int .u32 0, .int .u32 0, .int .u32 0, .int .u32 0, .int .u32 0, .int .u32 0, .int .u32 0, .int .u32 0, .int .u32 0, .int .u32 0, .int .u32 0, .int .u32 0, .int .u32 0, .int .u32 0, .int .u32 0, .int .u32 0, .int .u32 0, .int .u32 0, .int .u32 0, .int .u32 0, .int .u32 0] : Array Value) = (u32s (part32 f 0)).toArray := rfl
def twiceL (m : List Nat) (i : Nat) : Nat := Crc.ofL m (m.getD i 0)
set_option maxHeartbeats 1000000 in
theorem twice_any (m : List Nat) (hm : m.length = 32) (hlt : ∀ c ∈ m, c < 4294967296) (w : World) :
    Calls Tryd.prog 27 #[.agg (u32s m).toArray] w fun e w' => e = .returned (.agg (u32s (part32 (twiceL m) 32)).toArray) ∧ Below w.heap.size w w' := by
  have HM := Lib.hid hm
  have HL := Lib.hid hlt
  clear hm hlt
  go_enter Tryd.func27, Tryd.ntmps27
  go_wp2
  rw [u32s_zero (twiceL m)]
  go_loopw [5] (fun i wr => ∃ k : Nat, i = .int .i64 k ∧ k ≤ 32 ∧ Hid (Blk wr w.heap.size (u32s m) 48) ∧ Hid (Blk wr (w.heap.size + 1) (u32s (part32 (twiceL m) 0)) 48) ∧ Hid (Blk wr (w.heap.size + 1 + 1) (u32s (part32 (twiceL m) k)) 48) ∧ Hid (Below w.heap.size w wr)) (fun i _ => 32 - (intOf i).toNat)
  case atStart => exact ⟨0, rfl, by omega, Lib.hid (((Blk.new _ _ _).alloc _).alloc _), Lib.hid (by simpa using (Blk.new (w.alloc _) (u32s (part32 (twiceL m) 0)) 48).alloc _), Lib.hid (by simpa using Blk.new ((w.alloc _).alloc _) (u32s (part32 (twiceL m) 0)) 48), Lib.hid ((((Below.refl _ _).alloc (Nat.le_refl _) _).alloc (by simp) _).alloc (by simp; omega) _)⟩
  case round =>
    obtain ⟨k, rfl, hk, H0, H1, H2, HB⟩ := hrel
    by_cases hlt : k < 32
    · have hc : wr.cell? ⟨w.heap.size, k, none⟩ = some (.int .u32 (m.getD k 0 : Nat)) := (H0.out.cells.get (j := k) (by simp [u32s, List.getD_eq_getElem?_getD, HM.out, hlt])).1
      have hml : m.getD k 0 < 4294967296 := HL.out _ (by rw [List.getD_eq_getElem?_getD, List.getElem?_eq_getElem (by rw [HM.out]; exact hlt)]; simp)
      have hf := H2.out.frozen k
      have hc2 : wr.cell? ⟨w.heap.size + 1 + 1, k, none⟩ = some (.int .u32 ((part32 (twiceL m) k).getD k 0 : Nat)) := (H2.out.cells.get (j := k) (by simp [u32s, List.getD_eq_getElem?_getD, part32, hlt])).1
      have hst := Lib.hid (H2.out.set k (.int .u32 (twiceL m k : Nat)))
      rw [u32s_set, part32_set] at hst
      go_wp2_with (go_at_call 26; refine (of_any _ m HM.out HL.out _ hml _ H0.out.cells).mono ?_; rintro e w' ⟨rfl, rfl⟩)
      go_roundw
      case rel => exact ⟨k + 1, by go_num, by omega, Lib.hid (H0.out.other _ _ (by simp; omega)), Lib.hid (H1.out.other _ _ (by simp)), hst, Lib.hid (HB.out.setCell (by simp; omega) _)⟩
      case measure => simp [intOf]; omega
    · obtain rfl : k = 32 := by omega
      go_wp2_with (first | (refine wpList_load_blk rfl 48 _ rfl _ rfl _ _ _ H2.out Tryd.underlying48 rfl 32 (by kernel_rfl) (by rw [u32s_length, part32_length]) ?_) | (refine wpList_store_blk rfl rfl 48 _ _ rfl _ rfl _ (u32s (part32 (twiceL m) 32)) rfl _ H1.out 32 (by kernel_rfl) (by rw [u32s_length, part32_length]) (by rw [u32s_length, part32_length]) (u32s_one _) ?_))
      refine bodyPost_ret (v := .agg (u32s (part32 (twiceL m) 32)).toArray) ?_ rfl ⟨rfl, ?_⟩
      · exact results_cell_row rfl _ _ (w.heap.size + 1) 48 _ (0, 0) _ rfl (H1.out.row _) Tryd.underlying48 rfl (by rw [show (Tryd.prog.info? 48).map (·.size) = some 32 by kernel_rfl]; simp [u32s, part32])
      · exact below_setRow' HB.out (by omega) _
def noughtL (i : Nat) : Nat := Crc.nib (Crc.nib (2 ^ i))
theorem nought_i (k : Nat) (h : k < 32) : bits BinOp.xor IntKind.u32 (bits BinOp.xor IntKind.u32 ((2 : Int) ^ k % 4294967296 / 16) (tabAt ((2 : Int) ^ k % 4294967296)) / 16)
    (tabAt (bits BinOp.xor IntKind.u32 ((2 : Int) ^ k % 4294967296 / 16) (tabAt ((2 : Int) ^ k % 4294967296)))) = ((noughtL k : Nat) : Int) := by
  have hl : 2 ^ k < 4294967296 := Nat.lt_of_le_of_lt (Nat.pow_le_pow_right (by decide) (show k ≤ 31 by omega)) (by decide)
  have e : ((2 : Int) ^ k % 4294967296) = ((2 ^ k : Nat) : Int) := by
    have : ((2 : Int) ^ k) = ((2 ^ k : Nat) : Int) := by simp
    rw [this]
    generalize 2 ^ k = p at hl
    omega
  rw [e, nib_i hl, nib_i (nib_lt hl)]; rfl
set_option maxHeartbeats 1000000 in
theorem nought_any (w : World) (ht : Tab w) :
    Calls Tryd.prog 25 #[] w fun e w' => e = .returned (.agg (u32s (part32 noughtL 32)).toArray) ∧ Below w.heap.size w w' := by
  have HT : Hid (Tab w) := Lib.hid ht
  clear ht
  have HA := and15
  go_enter Tryd.func25, Tryd.ntmps25
  go_wp2
  rw [u32s_zero noughtL]
  go_loopw [4] (fun i wr => ∃ k : Nat, i = .int .i64 k ∧ k ≤ 32 ∧ Hid (Blk wr w.heap.size (u32s (part32 noughtL 0)) 48) ∧ Hid (Blk wr (w.heap.size + 1) (u32s (part32 noughtL k)) 48) ∧ Hid (Below w.heap.size w wr)) (fun i _ => 32 - (intOf i).toNat)
  case atStart => exact ⟨0, rfl, by omega, Lib.hid ((Blk.new _ _ _).alloc _), Lib.hid (by simpa using Blk.new (w.alloc _) (u32s (part32 noughtL 0)) 48), Lib.hid (((Below.refl _ _).alloc (Nat.le_refl _) _).alloc (by simp) _)⟩
  case round =>
    obtain ⟨k, rfl, hk, H1, H2, HB⟩ := hrel
    by_cases hlt : k < 32
    · have hf := H2.out.frozen k
      have hc2 : wr.cell? ⟨w.heap.size + 1, k, none⟩ = some (.int .u32 ((part32 noughtL k).getD k 0 : Nat)) := (H2.out.cells.get (j := k) (by simp [u32s, List.getD_eq_getElem?_getD, part32, hlt])).1
      have hst := Lib.hid (H2.out.set k (.int .u32 (noughtL k : Nat)))
      rw [u32s_set, part32_set] at hst
      have HTr := (HT.out.below HB.out).read
      have e := nought_i k hlt
      go_wp2
      go_roundw
      case rel => exact ⟨k + 1, by go_num, by omega, Lib.hid (H1.out.other _ _ (by simp)), hst, Lib.hid (HB.out.setCell (by simp) _)⟩
      case measure => simp [intOf]; omega
    · obtain rfl : k = 32 := by omega
      go_wp2_with (first | (refine wpList_load_blk rfl 48 _ rfl _ rfl _ _ _ H2.out Tryd.underlying48 rfl 32 (by kernel_rfl) (by rw [u32s_length, part32_length]) ?_) | (refine wpList_store_blk rfl rfl 48 _ _ rfl _ rfl _ (u32s (part32 noughtL 32)) rfl _ H1.out 32 (by kernel_rfl) (by rw [u32s_length, part32_length]) (by rw [u32s_length, part32_length]) (u32s_one _) ?_))
      refine bodyPost_ret (v := .agg (u32s (part32 noughtL 32)).toArray) ?_ rfl ⟨rfl, ?_⟩
      · exact results_cell_row rfl _ _ w.heap.size 48 _ (0, 0) _ rfl (H1.out.row _) Tryd.underlying48 rfl (by rw [show (Tryd.prog.info? 48).map (·.size) = some 32 by kernel_rfl]; simp [u32s, part32])
      · exact below_setRow' HB.out (by omega) _
theorem nought_cols : part32 noughtL 32 = Crc.cols (Crc.bitN 8) 32 := by
  apply List.ext_getElem?
  intro j
  by_cases h : j < 32
  · have := Crc.cols_get 32 (Crc.bitN 8) j h
    rw [List.getD_eq_getElem?_getD, List.getElem?_eq_getElem (by rw [Crc.cols_length]; exact h)] at this
    rw [List.getElem?_eq_getElem (l := Crc.cols (Crc.bitN 8) 32) (by rw [Crc.cols_length]; exact h), show (Crc.cols (Crc.bitN 8) 32)[j]'(by rw [Crc.cols_length]; exact h) = Crc.bitN 8 (2 ^ j) from this]
    simp [part32, h, noughtL, Crc.nib_eq, ← Crc.bitN_add]
  · rw [List.getElem?_eq_none (by simp [part32]; omega), List.getElem?_eq_none (by rw [Crc.cols_length]; omega)]
theorem twice_cols (n : Nat) : part32 (twiceL (Crc.cols (Crc.bitN n) 32)) 32 = Crc.cols (Crc.bitN (2 * n)) 32 := by
  apply List.ext_getElem?
  intro j
  by_cases h : j < 32
  · have h1 := Crc.cols_get 32 (Crc.bitN n) j h
    have h2 := Crc.cols_get 32 (Crc.bitN (2 * n)) j h
    rw [List.getD_eq_getElem?_getD, List.getElem?_eq_getElem (by rw [Crc.cols_length]; exact h)] at h2
    rw [List.getElem?_eq_getElem (l := Crc.cols (Crc.bitN (2 * n)) 32) (by rw [Crc.cols_length]; exact h), show (Crc.cols (Crc.bitN (2 * n)) 32)[j]'(by rw [Crc.cols_length]; exact h) = Crc.bitN (2 * n) (2 ^ j) from h2]
    have hl : 2 ^ j < 4294967296 := Nat.lt_of_le_of_lt (Nat.pow_le_pow_right (by decide) (show j ≤ 31 by omega)) (by decide)
    simp only [part32, List.getElem?_map, List.getElem?_range h, Option.map_some, if_pos h, twiceL, h1]
    rw [Crc.ofL_cols 32 _ (Crc.bitN_xor n) _ (Crc.bitN_lt n hl), ← Crc.bitN_add, Nat.two_mul]
  · rw [List.getElem?_eq_none (by simp [part32]; omega), List.getElem?_eq_none (by rw [Crc.cols_length]; omega)]
theorem cols_lt (n : Nat) : ∀ c ∈ Crc.cols (Crc.bitN n) 32, c < 4294967296 := by
  intro c hc
  obtain ⟨j, hj, rfl⟩ := List.mem_iff_getElem.1 hc
  rw [Crc.cols_length] at hj
  have h1 := Crc.cols_get 32 (Crc.bitN n) j hj
  rw [List.getD_eq_getElem?_getD, List.getElem?_eq_getElem (by rw [Crc.cols_length]; exact hj)] at h1
  rw [show (Crc.cols (Crc.bitN n) 32)[j]'(by rw [Crc.cols_length]; exact hj) = Crc.bitN n (2 ^ j) from h1]
  exact Crc.bitN_lt n (Nat.lt_of_le_of_lt (Nat.pow_le_pow_right (by decide) (show j ≤ 31 by omega)) (by decide))
set_option maxHeartbeats 1000000 in
theorem join_no (a b : Int) (n : Int) (hn : n < 0 ∨ 65536 < n) (w : World) :
    Calls Tryd.prog 20 #[.int .u32 a, .int .u32 b, .int .i64 n] w fun e w' => e = .returned (.tuple #[.int .u32 0, .bool false]) ∧ w = w' := by
  rcases hn with h | h
  · go_enter Tryd.func20, Tryd.ntmps20
    go_wp2
    go_ret2
    exact ⟨rfl, rfl⟩
  · have h0 : ¬ n < 0 := by omega
    go_enter Tryd.func20, Tryd.ntmps20
    go_wp2
    go_ret2
    exact ⟨rfl, rfl⟩
theorem and1_i64 (k : Nat) (h : k < 9223372036854775808) : bits .and .i64 (k : Int) 1 = ((k % 2 : Nat) : Int) := by
  have h1 : (BitVec.ofInt 64 (k : Int)).toNat = k := by rw [BitVec.ofInt_natCast, BitVec.toNat_ofNat]; exact Nat.mod_eq_of_lt (by omega)
  show IntKind.i64.wrap ((BitVec.ofInt 64 (k : Int) &&& BitVec.ofInt 64 1).toNat : Int) = _
  rw [BitVec.toNat_and, h1, show (BitVec.ofInt 64 1).toNat = 1 from rfl, nat_mask1, IntKind.wrap_i64]
  have : k % 2 < 2 := Nat.mod_lt _ (by decide)
  omega
theorem mat_size : (Tryd.prog.info? 48).map (·.size) = some 32 := by kernel_rfl
theorem cols_size (n : Nat) : (u32s (Crc.cols (Crc.bitN n) 32)).length = 32 := by rw [u32s_length, Crc.cols_length]
set_option maxHeartbeats 2000000 in
theorem join_any (a b : Nat) (ha : a < 4294967296) (hb : b < 4294967296) (n : Nat) (hn : n ≤ 65536) (w : World) (ht : Tab w) :
    Calls Tryd.prog 20 #[.int .u32 a, .int .u32 b, .int .i64 n] w fun e w' => e = .returned (.tuple #[.int .u32 (Crc.bitN (8 * n) a ^^^ b : Nat), .bool true]) ∧ Below w.heap.size w w' := by
  have HT : Hid (Tab w) := Lib.hid ht
  clear ht
  go_enter Tryd.func20, Tryd.ntmps20
  go_wp2_with (first
    | (go_at_call 25; refine (nought_any _ HT.out).mono ?_; rintro e w1 ⟨rfl, hb'⟩; have HB := Lib.hid hb'; clear hb'; rw [nought_cols])
    | (refine wpList_store_blk rfl rfl 48 _ _ rfl w1.heap.size rfl (u32s (part32 noughtL 0)) (u32s (Crc.cols (Crc.bitN 8) 32)) rfl 48 (Blk.new _ _ _) 32 mat_size (by rw [u32s_length, part32_length]) (cols_size 8) (u32s_one _) ?_))
  go_loopw [2, 8, 9] (fun nv r p wr => ∃ (k j q g : Nat), nv = .int .i64 k ∧ k ≤ 65536 ∧ r = .int .u32 q ∧ q < 4294967296 ∧ p = .pointer (some ⟨g, 0, none⟩) ∧ w.heap.size ≤ g ∧ Hid (Crc.bitN (8 * (j * k)) q = Crc.bitN (8 * n) a) ∧ Hid (Blk wr g (u32s (Crc.cols (Crc.bitN (8 * j)) 32)) 48) ∧ Hid (Below w.heap.size w wr)) (fun nv _ _ _ => (intOf nv).toNat)
  case atStart =>
    exact ⟨n, 1, a, w1.heap.size, rfl, hn, rfl, ha, rfl, HB.out.size, Lib.hid (by rw [Nat.one_mul]), Lib.hid ((Blk.new _ _ _).row _), Lib.hid (below_setRow' (HB.out.alloc HB.out.size _) HB.out.size _)⟩
  case round =>
    obtain ⟨k, j, q, g, rfl, hk, rfl, hq, rfl, hg, HE, H0, HBr⟩ := hrel
    by_cases h0 : k = 0
    · subst h0
      go_wp2
      go_ret2
      exact ⟨by have := HE.out; rw [Nat.mul_zero, Nat.mul_zero, Crc.bitN] at this; rw [this, u32_xor_nat _ _ (Crc.bitN_lt _ ha) hb]; rfl, HBr.out⟩
    · have hk0 : 0 < k := by omega
      have ha1 := and1_i64 k (by omega)
      have hb8 := Crc.bitN_lt (8 * j) hq
      rcases Nat.mod_two_eq_zero_or_one k with h2 | h2
      · rw [h2] at ha1
        have h2 := Lib.hid h2
        go_wp2_with (refine wpList_load_blk rfl 48 _ rfl _ rfl _ _ _ H0.out Tryd.underlying48 rfl 32 mat_size (cols_size _) ?_)
        refine (twice_any _ (Crc.cols_length _ _) (cols_lt _) _).mono ?_
        rintro e w2 ⟨rfl, hb2⟩
        rw [twice_cols]
        have HB2 := Lib.hid hb2
        clear hb2
        have H2 := Lib.hid (H0.out.below HB2.out H0.out.lt)
        have H3 := Lib.hid (H2.out.row (u32s (Crc.cols (Crc.bitN (2 * (8 * j))) 32)))
        have HB3 := Lib.hid (below_setRow' (below_then HBr.out HBr.out.size HB2.out) hg (u32s (Crc.cols (Crc.bitN (2 * (8 * j))) 32)).toArray)
        have hs3 := HB3.out.size
        obtain ⟨w3, hw3⟩ : ∃ w3, w3 = w2.setRow g (u32s (Crc.cols (Crc.bitN (2 * (8 * j))) 32)).toArray := ⟨_, rfl⟩
        rw [← hw3] at H3 HB3 hs3
        have HW3 := Lib.hid hw3
        clear hw3
        have H4 := Lib.hid ((Blk.new w3 (u32s (part32 noughtL 0)) 48).row (u32s (Crc.cols (Crc.bitN (2 * (8 * j))) 32)))
        have HB4 := Lib.hid (below_setRow' (HB3.out.alloc HB3.out.size (.cells (u32s (part32 noughtL 0)).toArray 48)) HB3.out.size (u32s (Crc.cols (Crc.bitN (2 * (8 * j))) 32)).toArray)
        go_wp2_with (first
          | (refine wpList_store_blk rfl rfl 48 _ _ rfl g rfl _ (u32s (Crc.cols (Crc.bitN (2 * (8 * j))) 32)) rfl 48 H2.out 32 mat_size (cols_size _) (cols_size _) (u32s_one _) ?_; rw [← HW3.out])
          | (refine wpList_load_blk rfl 48 _ rfl _ rfl _ _ _ H3.out Tryd.underlying48 rfl 32 mat_size (cols_size _) ?_)
          | (refine wpList_store_blk rfl rfl 48 _ _ rfl w3.heap.size rfl (u32s (part32 noughtL 0)) (u32s (Crc.cols (Crc.bitN (2 * (8 * j))) 32)) rfl 48 (Blk.new _ _ _) 32 mat_size (by rw [u32s_length, part32_length]) (cols_size _) (u32s_one _) ?_))
        go_roundw
        case rel => exact ⟨k / 2, 2 * j, q, w3.heap.size, val_int (by omega), by omega, rfl, hq, rfl, hs3, Lib.hid (by rw [← HE.out]; congr 2; rw [Nat.mul_comm 2 j, Nat.mul_assoc]; congr 1; have := h2.out; omega), Lib.hid (by rw [show 8 * (2 * j) = 2 * (8 * j) by omega]; exact H4.out), HB4⟩
        case measure => simp [intOf]; omega
      · rw [h2] at ha1
        have h2 := Lib.hid h2
        go_wp2_with fail
        refine (of_any g _ (Crc.cols_length _ _) (cols_lt _) q hq _ H0.out.cells).mono ?_
        rintro e w' ⟨rfl, rfl⟩
        rw [Crc.ofL_cols 32 _ (Crc.bitN_xor _) q hq]
        go_wp2_with (refine wpList_load_blk rfl 48 _ rfl _ rfl _ _ _ H0.out Tryd.underlying48 rfl 32 mat_size (cols_size _) ?_)
        refine (twice_any _ (Crc.cols_length _ _) (cols_lt _) _).mono ?_
        rintro e w2 ⟨rfl, hb2⟩
        rw [twice_cols]
        have HB2 := Lib.hid hb2
        clear hb2
        have H2 := Lib.hid (H0.out.below HB2.out H0.out.lt)
        have H3 := Lib.hid (H2.out.row (u32s (Crc.cols (Crc.bitN (2 * (8 * j))) 32)))
        have HB3 := Lib.hid (below_setRow' (below_then HBr.out HBr.out.size HB2.out) hg (u32s (Crc.cols (Crc.bitN (2 * (8 * j))) 32)).toArray)
        have hs3 := HB3.out.size
        obtain ⟨w3, hw3⟩ : ∃ w3, w3 = w2.setRow g (u32s (Crc.cols (Crc.bitN (2 * (8 * j))) 32)).toArray := ⟨_, rfl⟩
        rw [← hw3] at H3 HB3 hs3
        have HW3 := Lib.hid hw3
        clear hw3
        have H4 := Lib.hid ((Blk.new w3 (u32s (part32 noughtL 0)) 48).row (u32s (Crc.cols (Crc.bitN (2 * (8 * j))) 32)))
        have HB4 := Lib.hid (below_setRow' (HB3.out.alloc HB3.out.size (.cells (u32s (part32 noughtL 0)).toArray 48)) HB3.out.size (u32s (Crc.cols (Crc.bitN (2 * (8 * j))) 32)).toArray)
        go_wp2_with (first
          | (refine wpList_store_blk rfl rfl 48 _ _ rfl g rfl _ (u32s (Crc.cols (Crc.bitN (2 * (8 * j))) 32)) rfl 48 H2.out 32 mat_size (cols_size _) (cols_size _) (u32s_one _) ?_; rw [← HW3.out])
          | (refine wpList_load_blk rfl 48 _ rfl _ rfl _ _ _ H3.out Tryd.underlying48 rfl 32 mat_size (cols_size _) ?_)
          | (refine wpList_store_blk rfl rfl 48 _ _ rfl w3.heap.size rfl (u32s (part32 noughtL 0)) (u32s (Crc.cols (Crc.bitN (2 * (8 * j))) 32)) rfl 48 (Blk.new _ _ _) 32 mat_size (by rw [u32s_length, part32_length]) (cols_size _) (u32s_one _) ?_))
        go_roundw
        case rel => exact ⟨k / 2, 2 * j, Crc.bitN (8 * j) q, w3.heap.size, val_int (by omega), by omega, rfl, hb8, rfl, hs3, Lib.hid (by rw [← HE.out, ← Crc.bitN_add]; congr 1; have := h2.out; rw [show j * k = j * (2 * (k / 2) + 1) by congr 1; omega, Nat.mul_add, Nat.mul_comm 2 j, Nat.mul_assoc, Nat.mul_one]; omega), Lib.hid (by rw [show 8 * (2 * j) = 2 * (8 * j) by omega]; exact H4.out), HB4⟩
        case measure => simp [intOf]; omega
end Go.Proofs.YtmejgkcclgkgjaaDoor
