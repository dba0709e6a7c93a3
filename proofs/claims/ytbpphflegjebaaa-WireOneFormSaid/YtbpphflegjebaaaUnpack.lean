/- wire.Unpack: the contracts of Int, Text, Bool, End. (Under way.) -/
import Derived.Test.YtbpphflegjebaaaGoto
import Derived.Test.YtbpphflegjebaaaPUnpack
import Derived.Lib.IndexBytes
namespace Go.Proofs.Ytbpphflegjebaaa
open Go.RowKit
set_option linter.unusedVariables false
set_option linter.unusedSimpArgs false
/-- what is left, and the first error -/
structure St where
  rest : ByteArray
  err : Nat
def St.cells (s : St) : List Value := [.string s.rest, .int .i64 (s.err : Int)]
def UnpAt (w : World) (b : Nat) (s : St) : Prop := Blk w b s.cells 58
def St.take (s : St) (k : Nat) : St := ⟨s.rest.extract k s.rest.size, 0⟩
def St.int (s : St) : St × Int :=
  if s.err ≠ 0 then (s, 0) else match Wire.decU s.rest.data.toList 0 0 with
    | .bad e => (⟨s.rest, e⟩, 0)
    | .ok u k => (s.take k, Wire.unzz u)
def natOf : Value → Nat
  | .int _ x => x.toNat
  | _ => 0
def fr1 (b i acc : Nat) (u : Nat → Value) : Act := { tmps := #[.pointer (some ⟨b, 0, none⟩), u 1, .int .i64 0, .int .u64 (acc : Int), .int .u64 (7 * (i : Int)), .int .i64 (i : Int), u 6, .int .i64 21, u 8, u 9, u 10, u 11, u 12, u 13, u 14, u 15, u 16, u 17, u 18, u 19, u 20, u 21, u 22, u 23, u 24, u 25, u 26, u 27, u 28, u 29, u 30, u 31, u 32, u 33, u 34, u 35, u 36, u 37, u 38, u 39, u 40, u 41, u 42, u 43, u 44, u 45, u 46, u 47, u 48, u 49, u 50, u 51, u 52, u 53, u 54, u 55, u 56, u 57, u 58, u 59, u 60, u 61, u 62, u 63, u 64, u 65, u 66, u 67, u 68, u 69, u 70, u 71, u 72, u 73, u 74, u 75], defers := [] }
def fr0 (b why : Nat) (u : Nat → Value) : Act := { tmps := #[.pointer (some ⟨b, 0, none⟩), u 1, .int .i64 0, u 3, u 4, u 5, u 6, .int .i64 (why : Int), u 8, u 9, u 10, u 11, u 12, u 13, u 14, u 15, u 16, u 17, u 18, u 19, u 20, u 21, u 22, u 23, u 24, u 25, u 26, u 27, u 28, u 29, u 30, u 31, u 32, u 33, u 34, u 35, u 36, u 37, u 38, u 39, u 40, u 41, u 42, u 43, u 44, u 45, u 46, u 47, u 48, u 49, u 50, u 51, u 52, u 53, u 54, u 55, u 56, u 57, u 58, u 59, u 60, u 61, u 62, u 63, u 64, u 65, u 66, u 67, u 68, u 69, u 70, u 71, u 72, u 73, u 74, u 75], defers := [] }
def IntJ (w : World) (b : Nat) (s : St) : Nat → Act → World → Prop
  | 1, a, w' => w = w' ∧ ∃ (i acc : Nat), a = fr1 b i acc (fun k => a.tmps.getD k undef) ∧ i ≤ s.rest.size ∧ i ≤ 9 ∧ Hid (acc < 2 ^ (7 * i)) ∧ Hid (Wire.decU (s.rest.data.toList.drop i) i acc = Wire.decU s.rest.data.toList 0 0)
  | 0, a, w' => w = w' ∧ ∃ (why : Nat), a = fr0 b why (fun k => a.tmps.getD k undef) ∧ Hid (Wire.decU s.rest.data.toList 0 0 = .bad why) ∧ why < 30
  | _, _, _ => False
theorem mask127 (x : Nat) (h : x < 2 ^ 8) : bits .and .u8 (x : Int) 127 = ((x % 128 : Nat) : Int) := by
  rw [show (127 : Int) = ((127 : Nat) : Int) from rfl, u8_and_nat _ _ h (by decide)]
  congr 1
  exact Nat.and_two_pow_sub_one_eq_mod x 7
theorem or_step (i acc x : Nat) (hi : i ≤ 9) (ha : acc < 2 ^ (7 * i)) (hx : x < 2 ^ 8) (h9 : ¬ (i = 9 ∧ 1 < x)) :
    bits .or .u64 (acc : Int) (IntKind.u64.wrap ((x : Int) % 128 * 2 ^ (7 * i))) = ((acc + (x % 128) * 2 ^ (7 * i) : Nat) : Int) ∧ acc + (x % 128) * 2 ^ (7 * i) < 2 ^ (7 * (i + 1)) ∧ acc + (x % 128) * 2 ^ (7 * i) < 18446744073709551616 := by
  have e0 : ((x : Int) % 128 * 2 ^ (7 * i)) = (((x % 128) * 2 ^ (7 * i) : Nat) : Int) := by
    rw [Int.natCast_mul, Int.natCast_pow]; rfl
  have hb : (x % 128) * 2 ^ (7 * i) < 18446744073709551616 ∧ acc + (x % 128) * 2 ^ (7 * i) < 2 ^ (7 * (i + 1)) ∧ acc + (x % 128) * 2 ^ (7 * i) < 18446744073709551616 := by
    have h7 : 2 ^ (7 * (i + 1)) = 128 * 2 ^ (7 * i) := Wire.pow7 i
    have hle : (x % 128) * 2 ^ (7 * i) ≤ 127 * 2 ^ (7 * i) := Nat.mul_le_mul_right _ (by omega)
    by_cases e9 : i = 9
    · subst e9
      have hx1 : x % 128 ≤ 1 := by omega
      have hle2 : (x % 128) * 2 ^ (7 * 9) ≤ 1 * 2 ^ (7 * 9) := Nat.mul_le_mul_right _ hx1
      have h63 : (2 : Nat) ^ (7 * 9) = 9223372036854775808 := by decide
      rw [h63] at *
      omega
    · have hp : (2 : Nat) ^ (7 * (i + 1)) ≤ 2 ^ 63 := Nat.pow_le_pow_right (by decide) (by omega)
      have h63 : (2 : Nat) ^ 63 = 9223372036854775808 := by decide
      omega
  rw [e0, IntKind.wrap_u64, Int.emod_eq_of_lt (by omega) (by omega), bits_or_u64_nat _ _ (by omega) hb.1]
  refine ⟨?_, hb.2⟩
  congr 1
  rw [Nat.mul_comm (x % 128), Nat.or_comm, ← Nat.two_pow_add_eq_or_of_lt ha, Nat.add_comm]
theorem unzz_i (v : Nat) (hv : v < 18446744073709551616) :
    bits .xor .i64 (wrap64 ((v : Int) / 2)) (wrap64 (-wrap64 (bits .and .u64 (v : Int) 1))) = Wire.unzz v := by
  have e1 : bits .and .u64 (v : Int) 1 = ((v % 2 : Nat) : Int) := by
    rw [show (1 : Int) = ((1 : Nat) : Int) from rfl, bits_and_u64_nat _ _ hv (by decide)]
    congr 1
    exact Nat.and_two_pow_sub_one_eq_mod v 1
  have e2 : wrap64 ((v : Int) / 2) = ((v / 2 : Nat) : Int) := by unfold wrap64; omega
  rw [e1, e2]
  unfold Wire.unzz
  have hh : v / 2 < 9223372036854775808 := by omega
  generalize v / 2 = a at *
  rcases Nat.mod_two_eq_zero_or_one v with h | h
  · rw [h, if_neg (by decide), show wrap64 (-wrap64 ((0 : Nat) : Int)) = 0 by unfold wrap64; omega]
    show IntKind.i64.wrap ((BitVec.ofInt 64 (a : Int) ^^^ BitVec.ofInt 64 0).toNat : Int) = _
    rw [show BitVec.ofInt 64 0 = 0#64 from rfl, BitVec.xor_zero, BitVec.ofInt_natCast, BitVec.toNat_ofNat, IntKind.wrap_i64]
    omega
  · rw [h, if_pos rfl, show wrap64 (-wrap64 ((1 : Nat) : Int)) = -1 by unfold wrap64; omega]
    show IntKind.i64.wrap ((BitVec.ofInt 64 (a : Int) ^^^ BitVec.ofInt 64 (-1)).toNat : Int) = _
    rw [show BitVec.ofInt 64 (-1) = BitVec.allOnes 64 from rfl, BitVec.xor_allOnes, BitVec.toNat_not, BitVec.ofInt_natCast, BitVec.toNat_ofNat, IntKind.wrap_i64]
    omega
set_option maxRecDepth 100000 in
set_option maxHeartbeats 2000000 in
theorem uint_any (b : Nat) (s : St) (w : World) (h : UnpAt w b s) :
    Calls Try.prog 18 #[.pointer (some ⟨b, 0, none⟩)] w fun e w' => e = .returned (.int .i64 s.int.2) ∧ UnpAt w' b s.int.1 ∧ Fr w w' (fun k => k = b) := by
  have c0 : w.cell? ⟨b, 0, none⟩ = some (.string s.rest) := h.cell 0
  have c1 : w.cell? ⟨b, 1, none⟩ = some (.int .i64 (s.err : Int)) := h.cell 1
  have H := Lib.hid h
  clear h
  by_cases he : s.err = 0
  · rw [he] at c1
    have HE := Lib.hid he
    clear he
    go_enter Try.func18, Try.ntmps18
    go_wp2
    refine wp_scope_jumpH (IntJ w b s) (fun l a _ => if l = 1 then 11 - natOf (a.tmps.getD 5 undef) else 0) ?pass ?first
    case first =>
      intro hp
      have HP := Lib.hid hp
      clear hp
      go_wp2
      go_step3
      simp only [Exit.then]
      rename_i K1 hK1
      refine hK1 _ _ ?_
      refine HP.out 1 _ _ _ ?_ rfl
      exact ⟨rfl, 0, 0, by rfl, Nat.zero_le _, by omega, Lib.hid (by decide), Lib.hid rfl⟩
    case pass =>
      rintro l a w' hJ
      match l, hJ with
      | 0, hJ =>
        obtain ⟨rfl, why, ha, HW, hwhy⟩ := hJ
        generalize (fun k => a.tmps.getD k undef) = u at ha
        subst ha
        unfold fr0
        refine ⟨_, rfl, ?_⟩
        have f1 := H.out.frozen 1
        have HB2 := Lib.hid (Blk.set H.out 1 (.int .i64 (why : Int)))
        have HF2 := Lib.hid ((Fr.refl w (fun k => k = b)).setCell ⟨b, 1, none⟩ (.int .i64 (why : Int)) (fun _ => rfl))
        have HS : Hid (s.int = (⟨s.rest, why⟩, 0)) := Lib.hid (by unfold St.int; rw [if_neg (by have := HE.out; omega), HW.out])
        go_wp2
        simp only [Exit.then, jumpG_ret]
        go_ret
        rw [HS.out]
        exact ⟨rfl, HB2.out, HF2.out⟩
      | 1, hJ =>
        obtain ⟨rfl, i, acc, ha, his, hi9, HACC, HD⟩ := hJ
        generalize (fun k => a.tmps.getD k undef) = u at ha
        subst ha
        unfold fr1
        refine ⟨_, rfl, ?_⟩
        have ia : ((i : Int)).toNat = i := by omega
        have pa : (0 : Int) ≤ (i : Int) := by omega
        by_cases hend : i = s.rest.size
        · have t1 : ((i : Int) == (s.rest.size : Int)) = true := by simp; omega
          have t2 : (i == s.rest.size) = true := by simp; omega
          have HEND := Lib.hid hend
          clear hend
          go_wp2
          go_step3
          simp only [Exit.then, jumpG_goto]
          refine ⟨⟨rfl, 20, by rfl, Lib.hid ?_, by omega⟩, ?_⟩
          · rw [← HD.out, HEND.out, List.drop_of_length_le (by simp)]; rfl
          · simp [natOf]; omega
        · have t1 : ((i : Int) == (s.rest.size : Int)) = false := by simp; omega
          have t2 : (i == s.rest.size) = false := by simp; omega
          have hlt : i < s.rest.size := by omega
          have hltz : (i : Int) < (s.rest.size : Int) := by omega
          have hget : s.rest.data.toList[i]? = some s.rest[i] := Lib.data_getElem? s.rest i hlt
          have HDR : Hid (s.rest.data.toList.drop i = s.rest[i] :: s.rest.data.toList.drop (i + 1)) := Lib.hid (by
            have hl := (List.getElem?_eq_some_iff.1 hget).1
            rw [List.drop_eq_getElem_cons hl]
            congr 1)
          have hbl := s.rest[i].toNat_lt
          have HBL := Lib.hid hbl
          have hm := mask127 s.rest[i].toNat hbl
          have HDU := Lib.hid HD.out
          rw [HDR.out] at HDU
          clear hend hget hbl
          by_cases h9 : i = 9 ∧ 1 < s.rest[i].toNat
          · have t3 : ((i : Int) == 9) = true := by simp; omega
            have t4 : decide ((1 : Int) < (s.rest[i].toNat : Int)) = true := by simp; omega
            have H9 := Lib.hid h9
            clear h9
            go_wp2
            go_step3
            simp only [Exit.then, jumpG_goto]
            refine ⟨⟨rfl, 21, by rfl, Lib.hid ?_, by omega⟩, ?_⟩
            · rw [← HDU.out, Wire.decU, if_pos H9.out]
            · simp [natOf]; omega
          · have H9 := Lib.hid h9
            have HOR := Lib.hid (or_step i acc s.rest[i].toNat hi9 HACC.out HBL.out h9)
            by_cases hi : i = 9
            · have t3 : ((i : Int) == 9) = true := by simp; omega
              have t4 : decide ((1 : Int) < (s.rest[i].toNat : Int)) = false := by simp; omega
              have hb : ¬ 128 ≤ s.rest[i].toNat := by omega
              have t5 : decide ((128 : Int) ≤ (s.rest[i].toNat : Int)) = false := by simp; omega
              clear h9 hi
              by_cases hz : s.rest[i].toNat = 0
              · have t6 : ((s.rest[i].toNat : Int) == 0) = true := by simp; omega
                by_cases hz0 : 0 < i
                · have t7 : decide ((1 : Int) < (i : Int) + 1) = true := by simp; omega
                  have H0 := Lib.hid hz0
                  have HZ := Lib.hid hz
                  have HB := Lib.hid hb
                  clear hz hb hz0
                  go_wp2_with fail
                  go_step3
                  simp only [Exit.then, jumpG_goto]
                  refine ⟨⟨rfl, 21, by rfl, Lib.hid ?_, by omega⟩, ?_⟩
                  · rw [← HDU.out, Wire.decU, if_neg H9.out, if_neg HB.out, if_pos ⟨HZ.out, H0.out⟩]
                  · simp [natOf]; omega
                · have t7 : decide ((1 : Int) < (i : Int) + 1) = false := by simp; omega
                  have hx128 : s.rest[i].toNat % 128 = s.rest[i].toNat := by omega
                  have HZ := Lib.hid (show ¬ (s.rest[i].toNat = 0 ∧ 0 < i) by omega)
                  have HB := Lib.hid hb
                  have HX := Lib.hid hx128
                  have f0 := H.out.frozen 0
                  have HB2 := Lib.hid (Blk.set H.out 0 (.string (s.rest.extract (i + 1) s.rest.size)))
                  have HF2 := Lib.hid ((Fr.refl w (fun k => k = b)).setCell ⟨b, 0, none⟩ (.string (s.rest.extract (i + 1) s.rest.size)) (fun _ => rfl))
                  have HS : Hid (s.int = (s.take (i + 1), Wire.unzz (acc + s.rest[i].toNat % 128 * 2 ^ (7 * i)))) := Lib.hid (by
                    unfold St.int
                    rw [if_neg (by have := HE.out; omega), ← HDU.out, Wire.decU, if_neg H9.out, if_neg HB.out, if_neg HZ.out, HX.out])
                  clear hx128 hb hz
                  go_wp2_with fail
                  simp only [Exit.then, jumpG_ret]
                  go_ret
                  rw [HS.out]
                  exact ⟨ret_int (by rw [HOR.out.1]; exact unzz_i _ HOR.out.2.2), by have h := HB2.out; unfold UnpAt St.take St.cells; unfold St.cells at h; rw [HE.out] at h; exact h, HF2.out⟩
              · have t6 : ((s.rest[i].toNat : Int) == 0) = false := by simp; omega
                have hx128 : s.rest[i].toNat % 128 = s.rest[i].toNat := by omega
                have HZ := Lib.hid (show ¬ (s.rest[i].toNat = 0 ∧ 0 < i) by omega)
                have HB := Lib.hid hb
                have HX := Lib.hid hx128
                have f0 := H.out.frozen 0
                have HB2 := Lib.hid (Blk.set H.out 0 (.string (s.rest.extract (i + 1) s.rest.size)))
                have HF2 := Lib.hid ((Fr.refl w (fun k => k = b)).setCell ⟨b, 0, none⟩ (.string (s.rest.extract (i + 1) s.rest.size)) (fun _ => rfl))
                have HS : Hid (s.int = (s.take (i + 1), Wire.unzz (acc + s.rest[i].toNat % 128 * 2 ^ (7 * i)))) := Lib.hid (by
                  unfold St.int
                  rw [if_neg (by have := HE.out; omega), ← HDU.out, Wire.decU, if_neg H9.out, if_neg HB.out, if_neg HZ.out, HX.out])
                clear hx128 hb hz
                go_wp2_with fail
                simp only [Exit.then, jumpG_ret]
                go_ret
                rw [HS.out]
                exact ⟨ret_int (by rw [HOR.out.1]; exact unzz_i _ HOR.out.2.2), by have h := HB2.out; unfold UnpAt St.take St.cells; unfold St.cells at h; rw [HE.out] at h; exact h, HF2.out⟩
            · have t3 : ((i : Int) == 9) = false := by simp; omega
              clear h9
              by_cases hb : 128 ≤ s.rest[i].toNat
              · have t5 : decide ((128 : Int) ≤ (s.rest[i].toNat : Int)) = true := by simp; omega
                have HB := Lib.hid hb
                clear hb
                go_wp2_with fail
                go_step3
                simp only [Exit.then, jumpG_goto]
                refine ⟨⟨rfl, i + 1, acc + (s.rest[i].toNat % 128) * 2 ^ (7 * i), ?_, by omega, by omega, Lib.hid HOR.out.2.1, Lib.hid ?_⟩, ?_⟩
                · rw [HOR.out.1, show (7 * (i : Int) + 7) = 7 * ((i + 1 : Nat) : Int) by omega, show ((i : Int) + 1) = ((i + 1 : Nat) : Int) by omega]
                  rfl
                · rw [← HDU.out, Wire.decU, if_neg H9.out, if_pos HB.out]
                · simp [natOf]; omega
              · have t5 : decide ((128 : Int) ≤ (s.rest[i].toNat : Int)) = false := by simp; omega
                by_cases hz : s.rest[i].toNat = 0
                · have t6 : ((s.rest[i].toNat : Int) == 0) = true := by simp; omega
                  by_cases hz0 : 0 < i
                  · have t7 : decide ((1 : Int) < (i : Int) + 1) = true := by simp; omega
                    have H0 := Lib.hid hz0
                    have HZ := Lib.hid hz
                    have HB := Lib.hid hb
                    clear hz hb hz0
                    go_wp2_with fail
                    go_step3
                    simp only [Exit.then, jumpG_goto]
                    refine ⟨⟨rfl, 21, by rfl, Lib.hid ?_, by omega⟩, ?_⟩
                    · rw [← HDU.out, Wire.decU, if_neg H9.out, if_neg HB.out, if_pos ⟨HZ.out, H0.out⟩]
                    · simp [natOf]; omega
                  · have t7 : decide ((1 : Int) < (i : Int) + 1) = false := by simp; omega
                    have hx128 : s.rest[i].toNat % 128 = s.rest[i].toNat := by omega
                    have HZ := Lib.hid (show ¬ (s.rest[i].toNat = 0 ∧ 0 < i) by omega)
                    have HB := Lib.hid hb
                    have HX := Lib.hid hx128
                    have f0 := H.out.frozen 0
                    have HB2 := Lib.hid (Blk.set H.out 0 (.string (s.rest.extract (i + 1) s.rest.size)))
                    have HF2 := Lib.hid ((Fr.refl w (fun k => k = b)).setCell ⟨b, 0, none⟩ (.string (s.rest.extract (i + 1) s.rest.size)) (fun _ => rfl))
                    have HS : Hid (s.int = (s.take (i + 1), Wire.unzz (acc + s.rest[i].toNat % 128 * 2 ^ (7 * i)))) := Lib.hid (by
                      unfold St.int
                      rw [if_neg (by have := HE.out; omega), ← HDU.out, Wire.decU, if_neg H9.out, if_neg HB.out, if_neg HZ.out, HX.out])
                    clear hx128 hb hz
                    go_wp2_with fail
                    simp only [Exit.then, jumpG_ret]
                    go_ret
                    rw [HS.out]
                    exact ⟨ret_int (by rw [HOR.out.1]; exact unzz_i _ HOR.out.2.2), by have h := HB2.out; unfold UnpAt St.take St.cells; unfold St.cells at h; rw [HE.out] at h; exact h, HF2.out⟩
                · have t6 : ((s.rest[i].toNat : Int) == 0) = false := by simp; omega
                  have hx128 : s.rest[i].toNat % 128 = s.rest[i].toNat := by omega
                  have HZ := Lib.hid (show ¬ (s.rest[i].toNat = 0 ∧ 0 < i) by omega)
                  have HB := Lib.hid hb
                  have HX := Lib.hid hx128
                  have f0 := H.out.frozen 0
                  have HB2 := Lib.hid (Blk.set H.out 0 (.string (s.rest.extract (i + 1) s.rest.size)))
                  have HF2 := Lib.hid ((Fr.refl w (fun k => k = b)).setCell ⟨b, 0, none⟩ (.string (s.rest.extract (i + 1) s.rest.size)) (fun _ => rfl))
                  have HS : Hid (s.int = (s.take (i + 1), Wire.unzz (acc + s.rest[i].toNat % 128 * 2 ^ (7 * i)))) := Lib.hid (by
                    unfold St.int
                    rw [if_neg (by have := HE.out; omega), ← HDU.out, Wire.decU, if_neg H9.out, if_neg HB.out, if_neg HZ.out, HX.out])
                  clear hx128 hb hz
                  go_wp2_with fail
                  simp only [Exit.then, jumpG_ret]
                  go_ret
                  rw [HS.out]
                  exact ⟨ret_int (by rw [HOR.out.1]; exact unzz_i _ HOR.out.2.2), by have h := HB2.out; unfold UnpAt St.take St.cells; unfold St.cells at h; rw [HE.out] at h; exact h, HF2.out⟩
  · have HE := Lib.hid he
    have e1 : ((s.err : Int) != 0) = true := by simp; omega
    have e2 : ((s.err : Int) == 0) = false := by simp; omega
    clear he
    have HS : Hid (s.int = (s, 0)) := Lib.hid (by unfold St.int; rw [if_pos HE.out])
    go_enter Try.func18, Try.ntmps18
    go_wp2
    go_step3
    go_wp2
    rw [Exit.noGoto_ret]
    go_ret
    rw [HS.out]
    exact ⟨rfl, H.out, Fr.refl _ _⟩
theorem uint_nil (w : World) : Calls Try.prog 18 #[.pointer none] w fun e w' => e = .returned (.int .i64 0) ∧ w = w' := by
  go_enter Try.func18, Try.ntmps18
  go_wp2
  go_step3
  go_wp2
  rw [Exit.noGoto_ret]
  go_ret
  exact ⟨rfl, rfl⟩
def St.fail (s : St) (e : Nat) : St := ⟨s.rest, e⟩
def textOf (s : St) (n : Int) : St × ByteArray :=
  if s.err ≠ 0 then (s, ⟨#[]⟩)
  else if n < 0 then (s.fail 21, ⟨#[]⟩)
  else if 1048576 < n then (s.fail 1, ⟨#[]⟩)
  else if (s.rest.size : Int) < n then (s.fail 20, ⟨#[]⟩)
  else (s.take n.toNat, s.rest.extract 0 n.toNat)
def St.text (s : St) : St × ByteArray := textOf s.int.1 s.int.2
def St.bool (s : St) : St × Bool :=
  if s.err ≠ 0 then (s, false)
  else match s.rest.data.toList with
    | [] => (s.fail 20, false)
    | b :: _ => if 1 < b.toNat then (s.fail 21, false) else (s.take 1, b.toNat == 1)
def St.fin (s : St) : Nat := if s.err = 0 ∧ s.rest.data.toList ≠ [] then 22 else s.err
set_option maxRecDepth 20000 in
set_option maxHeartbeats 1000000 in
theorem utext_any (b : Nat) (s : St) (w : World) (h : UnpAt w b s) (hsz : s.rest.size ≤ 140737488351232) :
    Calls Try.prog 20 #[.pointer (some ⟨b, 0, none⟩)] w fun e w' => e = .returned (.string s.text.2) ∧ UnpAt w' b s.text.1 ∧ Fr w w' (fun k => k = b) := by
  have HI := Lib.hid (uint_any b s w h)
  unfold St.text
  generalize s.int.1 = s1 at HI ⊢
  generalize s.int.2 = n at HI ⊢
  generalize hr : textOf s1 n = r
  have HT := Lib.hid hr
  clear hr h
  go_enter Try.func20, Try.ntmps20
  go_wp2_with fail
  refine HI.out.mono ?_
  rintro e w1 ⟨rfl, hU, hF⟩
  have U := Lib.hid hU
  have F1 := Lib.hid hF
  have c0 : w1.cell? ⟨b, 0, none⟩ = some (.string s1.rest) := hU.cell 0
  have c1 : w1.cell? ⟨b, 1, none⟩ = some (.int .i64 (s1.err : Int)) := hU.cell 1
  have f0 := hU.frozen 0
  have f1 := hU.frozen 1
  have HFAIL : Hid (∀ e : Nat, UnpAt (w1.setCell ⟨b, 1, none⟩ (.int .i64 (e : Int))) b (s1.fail e) ∧ Fr w (w1.setCell ⟨b, 1, none⟩ (.int .i64 (e : Int))) (fun k => k = b)) := Lib.hid (fun e => ⟨Blk.set hU 1 _, F1.out.setCell _ _ (fun _ => rfl)⟩)
  clear hU hF
  by_cases he : s1.err = 0
  · rw [he] at c1
    have HE := Lib.hid he
    clear he
    by_cases h1 : n < 0
    · have t1 : decide (n < 0) = true := by simp [h1]
      have HR := HT.out
      unfold textOf at HR
      rw [if_neg (by have := HE.out; omega), if_pos h1] at HR
      have HR := Lib.hid HR
      clear h1
      go_wp2
      go_ret
      rw [← HR.out]
      exact ⟨rfl, HFAIL.out 21⟩
    · have t1 : decide (n < 0) = false := by simp; omega
      by_cases h2 : 1048576 < n
      · have t2 : decide (1048576 < n) = true := by simp [h2]
        have HR := HT.out
        unfold textOf at HR
        rw [if_neg (by have := HE.out; omega), if_neg h1, if_pos h2] at HR
        have HR := Lib.hid HR
        clear h1 h2
        go_wp2
        go_ret
        rw [← HR.out]
        exact ⟨rfl, HFAIL.out 1⟩
      · have t2 : decide (1048576 < n) = false := by simp; omega
        by_cases h3 : (s1.rest.size : Int) < n
        · have t3 : decide ((s1.rest.size : Int) < n) = true := by simp [h3]
          have HR := HT.out
          unfold textOf at HR
          rw [if_neg (by have := HE.out; omega), if_neg h1, if_neg h2, if_pos h3] at HR
          have HR := Lib.hid HR
          clear h1 h2 h3
          go_wp2
          go_ret
          rw [← HR.out]
          exact ⟨rfl, HFAIL.out 20⟩
        · have t3 : decide ((s1.rest.size : Int) < n) = false := by simp; omega
          have HR := HT.out
          unfold textOf at HR
          rw [if_neg (by have := HE.out; omega), if_neg h1, if_neg h2, if_neg h3] at HR
          have HR := Lib.hid HR
          obtain ⟨m, rfl⟩ : ∃ m : Nat, n = m := ⟨n.toNat, by omega⟩
          have hm : m ≤ s1.rest.size := by omega
          have hm2 : m ≤ 1048576 := by omega
          have B2 := Lib.hid (Blk.set U.out 0 (.string (s1.rest.extract m s1.rest.size)))
          have F2 := Lib.hid (F1.out.setCell ⟨b, 0, none⟩ (.string (s1.rest.extract m s1.rest.size)) (fun _ => rfl))
          clear h1 h2 h3
          go_wp2
          go_ret
          rw [← HR.out]
          exact ⟨rfl, by have h := B2.out; unfold UnpAt St.take St.cells; unfold St.cells at h; rw [HE.out] at h; exact h, F2.out⟩
  · have HE := Lib.hid he
    have e1 : ((s1.err : Int) != 0) = true := by simp; omega
    have e2 : ((s1.err : Int) == 0) = false := by simp; omega
    have HR := HT.out
    unfold textOf at HR
    rw [if_pos he] at HR
    have HR := Lib.hid HR
    clear he
    go_wp2
    go_ret
    rw [← HR.out]
    exact ⟨rfl, U.out, F1.out⟩
end Go.Proofs.Ytbpphflegjebaaa
