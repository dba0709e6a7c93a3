/- The reference's bytes taken apart. -/
import Derived.Test.YtbpphflegjebaaaUnpack2
import Derived.Test.YtbpphflegjebaaaWire
namespace Go.Proofs.Ytbpphflegjebaaa
open Go.RowKit
set_option linter.unusedVariables false
set_option linter.unusedSimpArgs false
def RefAt (w : World) (b : Nat) (s : St) : Prop := Blk w b s.cells 44
theorem sum_step (i x : Nat) (hi : i ≤ 9) (hx : x < 2 ^ 8) (h9 : ¬ (i = 9 ∧ 1 < x)) (acc : Nat) (ha : acc < 2 ^ (7 * i)) :
    ∃ t v : Nat, IntKind.u64.wrap ((x : Int) % 128 * 2 ^ (7 * i)) = (t : Int) ∧ IntKind.u64.wrap ((acc : Int) + (t : Int)) = (v : Int) ∧ v = acc + x % 128 * 2 ^ (7 * i) ∧ v < 2 ^ (7 * (i + 1)) ∧ v < 18446744073709551616 := by
  have h := or_step i acc x hi ha hx h9
  have e0 : ((x : Int) % 128 * 2 ^ (7 * i)) = (((x % 128) * 2 ^ (7 * i) : Nat) : Int) := by
    rw [Int.natCast_mul, Int.natCast_pow]; rfl
  refine ⟨x % 128 * 2 ^ (7 * i), acc + x % 128 * 2 ^ (7 * i), ?_, ?_, rfl, h.2⟩
  · rw [e0, IntKind.wrap_u64]; omega
  · rw [IntKind.wrap_u64]; omega
theorem unzz_ref (v : Nat) (hv : v < 18446744073709551616) (h : v % 2 = 1) : wrap64 (bits .xor .u64 IntKind.u64.max (IntKind.u64.wrap ((v : Int) / 2))) = Wire.unzz v := by
  have e : bits .xor .u64 IntKind.u64.max (IntKind.u64.wrap ((v : Int) / 2)) = ((18446744073709551615 - v / 2 : Nat) : Int) := by
    rw [show IntKind.u64.max = ((18446744073709551615 : Nat) : Int) by decide, show IntKind.u64.wrap ((v : Int) / 2) = ((v / 2 : Nat) : Int) by rw [IntKind.wrap_u64]; omega, bits_xor_u64_nat _ _ (by decide) (by omega), Nat.xor_comm, xor_ones _ (by omega)]
  rw [e]
  unfold Wire.unzz wrap64
  rw [if_pos h]
  omega
theorem unzz_ref0 (v : Nat) (hv : v < 18446744073709551616) (h : v % 2 = 0) : wrap64 (IntKind.u64.wrap ((v : Int) / 2)) = Wire.unzz v := by
  unfold Wire.unzz
  rw [IntKind.wrap_u64]
  unfold wrap64
  rw [if_neg (by omega)]
  omega
set_option maxRecDepth 20000 in
set_option maxHeartbeats 2000000 in
theorem rint_any (b : Nat) (s : St) (w : World) (h : RefAt w b s) :
    Calls Try.prog 19 #[.pointer (some ⟨b, 0, none⟩)] w fun e w' => e = .returned (.int .i64 s.int.2) ∧ RefAt w' b s.int.1 ∧ Fr w w' (fun k => k = b) := by
  have c0 : w.cell? ⟨b, 0, none⟩ = some (.string s.rest) := h.cell 0
  have c1 : w.cell? ⟨b, 1, none⟩ = some (.int .i64 (s.err : Int)) := h.cell 1
  have f0 := h.frozen 0
  have f1 := h.frozen 1
  have HFAIL : Hid (∀ e : Nat, RefAt (w.setCell ⟨b, 1, none⟩ (.int .i64 (e : Int))) b (s.fail e) ∧ Fr w (w.setCell ⟨b, 1, none⟩ (.int .i64 (e : Int))) (fun k => k = b)) := Lib.hid (fun e => ⟨Blk.set h 1 _, (Fr.refl w _).setCell _ _ (fun _ => rfl)⟩)
  have H := Lib.hid h
  clear h
  by_cases he : s.err = 0
  · rw [he] at c1
    have HE := Lib.hid he
    clear he
    have HBAD : Hid (∀ e, Wire.decU s.rest.data.toList 0 0 = .bad e → s.int = (s.fail e, 0)) := Lib.hid (fun e h => by unfold St.int St.fail; rw [if_neg (by have := HE.out; omega), h])
    have HOK : Hid (∀ u k, Wire.decU s.rest.data.toList 0 0 = .ok u k → s.int = (s.take k, Wire.unzz u)) := Lib.hid (fun u k h => by unfold St.int; rw [if_neg (by have := HE.out; omega), h])
    go_enter Try.func19, Try.ntmps19
    go_wp2
    go_loopg [3, 4] 10 (fun g v3 v4 wr => ∃ i acc : Nat, v3 = .int .u64 (acc : Int) ∧ v4 = .int .i64 i ∧ i ≤ s.rest.size ∧ i ≤ 9 ∧ 10 ≤ g + i ∧ w = wr ∧ Hid (acc < 2 ^ (7 * i)) ∧ Hid (Wire.decU (s.rest.data.toList.drop i) i acc = Wire.decU s.rest.data.toList 0 0))
    case atStart => exact ⟨0, 0, rfl, rfl, Nat.zero_le _, by omega, by omega, rfl, Lib.hid (by decide), Lib.hid rfl⟩
    case round =>
      obtain ⟨i, acc, rfl, rfl, his, hi9, hg, rfl, HACC, HD⟩ := hrel
      have ia : ((i : Int)).toNat = i := by omega
      have pa : (0 : Int) ≤ (i : Int) := by omega
      by_cases hend : i = s.rest.size
      · have t1 : decide (s.rest.size ≤ i) = true := by simp; omega
        have t2 : decide ((s.rest.size : Int) ≤ (i : Int)) = true := by simp; omega
        have HS := Lib.hid (HBAD.out 20 (by rw [← HD.out, hend, List.drop_of_length_le (by simp)]; rfl))
        clear hend
        go_wp2
        go_ret
        rw [HS.out]
        exact ⟨rfl, HFAIL.out 20⟩
      · have t1 : decide (s.rest.size ≤ i) = false := by simp; omega
        have t2 : decide ((s.rest.size : Int) ≤ (i : Int)) = false := by simp; omega
        have hlt : i < s.rest.size := by omega
        have hltz : (i : Int) < (s.rest.size : Int) := by omega
        have hget : s.rest.data.toList[i]? = some s.rest[i] := Lib.data_getElem? s.rest i hlt
        have HDU : Hid (Wire.decU (s.rest[i] :: s.rest.data.toList.drop (i + 1)) i acc = Wire.decU s.rest.data.toList 0 0) := Lib.hid (by
          rw [← HD.out]
          have hl := (List.getElem?_eq_some_iff.1 hget).1
          rw [List.drop_eq_getElem_cons hl]
          congr 1)
        have HBL := Lib.hid s.rest[i].toNat_lt
        clear hend hget
        by_cases h9 : i = 9 ∧ 1 < s.rest[i].toNat
        · have t3 : ((i : Int) == 9) = true := by simp; omega
          have t4 : decide ((1 : Int) < (s.rest[i].toNat : Int)) = true := by simp; omega
          have HS := Lib.hid (HBAD.out 21 (by rw [← HDU.out, Wire.decU, if_pos h9]))
          clear h9
          go_wp2
          go_ret
          rw [HS.out]
          exact ⟨rfl, HFAIL.out 21⟩
        · have H9 := Lib.hid h9
          have HOR := Lib.hid (or_step i acc s.rest[i].toNat hi9 HACC.out HBL.out h9).2
          obtain ⟨tt, v, hs1, hs2, hv, hvp, hvl⟩ := sum_step i s.rest[i].toNat hi9 HBL.out h9 acc HACC.out
          have HV := Lib.hid hv
          have HVP := Lib.hid hvp
          have HVL := Lib.hid hvl
          clear hv hvp hvl
          by_cases hb : 128 ≤ s.rest[i].toNat
          · have hi : i ≠ 9 := by omega
            have t3 : ((i : Int) == 9) = false := by simp; omega
            have t5 : decide ((s.rest[i].toNat : Int) < 128) = false := by simp; omega
            have HB := Lib.hid hb
            clear h9 hb
            go_wp2
            go_roundg (10 - (i + 1))
            case measure => omega
            case rel => exact ⟨i + 1, v, rfl, by first | rfl | go_num, by omega, by omega, by omega, rfl, HVP, Lib.hid (by rw [← HDU.out, Wire.decU, if_neg H9.out, if_pos HB.out, HV.out])⟩
          · have t5 : decide ((s.rest[i].toNat : Int) < 128) = true := by simp; omega
            by_cases hi : i = 9
            · have t3 : ((i : Int) == 9) = true := by simp; omega
              have t4 : decide ((1 : Int) < (s.rest[i].toNat : Int)) = false := by simp; omega
              clear hi
              by_cases hz : s.rest[i].toNat = 0
              · have t6 : ((s.rest[i].toNat : Int) == 0) = true := by simp; omega
                by_cases hz0 : 0 < i
                · have t7 : decide ((0 : Int) < (i : Int)) = true := by first | (simp; done) | (simp; omega)
                  have t8 : decide (0 < i) = true := by first | (simp; done) | (simp; omega)
                  have HS := Lib.hid (HBAD.out 21 (by rw [← HDU.out, Wire.decU, if_neg h9, if_neg hb, if_pos ⟨hz, hz0⟩]))
                  clear h9 hb hz hz0
                  go_wp2
                  go_ret
                  rw [HS.out]
                  exact ⟨rfl, HFAIL.out 21⟩
                · have t7 : decide ((0 : Int) < (i : Int)) = false := by first | (simp; done) | (simp; omega)
                  have t8 : decide (0 < i) = false := by first | (simp; done) | (simp; omega)
                  have HS := Lib.hid (HOK.out v (i + 1) (by rw [← HDU.out, Wire.decU, if_neg h9, if_neg hb, if_neg (by omega), HV.out, show s.rest[i].toNat % 128 = s.rest[i].toNat by omega]))
                  have hx128 : s.rest[i].toNat % 128 = s.rest[i].toNat := by omega
                  have HB2 := Lib.hid (Blk.set H.out 0 (.string (s.rest.extract (i + 1) s.rest.size)))
                  have HF2 := Lib.hid ((Fr.refl w (fun k => k = b)).setCell ⟨b, 0, none⟩ (.string (s.rest.extract (i + 1) s.rest.size)) (fun _ => rfl))
                  have HX128 := Lib.hid hx128
                  clear h9 hb hz hx128
                  rcases Nat.mod_two_eq_zero_or_one v with h2 | h2
                  · have q1 : ((v : Int) % 2 == 1) = false := by simp; omega
                    have H2 := Lib.hid h2
                    clear h2
                    go_wp2
                    go_ret
                    rw [HS.out]
                    exact ⟨ret_int (unzz_ref0 v HVL.out H2.out), by have h := HB2.out; unfold RefAt St.take St.cells; unfold St.cells at h; rw [HE.out] at h; exact h, HF2.out⟩
                  · have q1 : ((v : Int) % 2 == 1) = true := by simp; omega
                    have H2 := Lib.hid h2
                    clear h2
                    go_wp2
                    go_ret
                    rw [HS.out]
                    exact ⟨ret_int (unzz_ref v HVL.out H2.out), by have h := HB2.out; unfold RefAt St.take St.cells; unfold St.cells at h; rw [HE.out] at h; exact h, HF2.out⟩
              · have t6 : ((s.rest[i].toNat : Int) == 0) = false := by simp; omega
                have HS := Lib.hid (HOK.out v (i + 1) (by rw [← HDU.out, Wire.decU, if_neg h9, if_neg hb, if_neg (by omega), HV.out, show s.rest[i].toNat % 128 = s.rest[i].toNat by omega]))
                have hx128 : s.rest[i].toNat % 128 = s.rest[i].toNat := by omega
                have HB2 := Lib.hid (Blk.set H.out 0 (.string (s.rest.extract (i + 1) s.rest.size)))
                have HF2 := Lib.hid ((Fr.refl w (fun k => k = b)).setCell ⟨b, 0, none⟩ (.string (s.rest.extract (i + 1) s.rest.size)) (fun _ => rfl))
                have HX128 := Lib.hid hx128
                clear h9 hb hz hx128
                rcases Nat.mod_two_eq_zero_or_one v with h2 | h2
                · have q1 : ((v : Int) % 2 == 1) = false := by simp; omega
                  have H2 := Lib.hid h2
                  clear h2
                  go_wp2
                  go_ret
                  rw [HS.out]
                  exact ⟨ret_int (unzz_ref0 v HVL.out H2.out), by have h := HB2.out; unfold RefAt St.take St.cells; unfold St.cells at h; rw [HE.out] at h; exact h, HF2.out⟩
                · have q1 : ((v : Int) % 2 == 1) = true := by simp; omega
                  have H2 := Lib.hid h2
                  clear h2
                  go_wp2
                  go_ret
                  rw [HS.out]
                  exact ⟨ret_int (unzz_ref v HVL.out H2.out), by have h := HB2.out; unfold RefAt St.take St.cells; unfold St.cells at h; rw [HE.out] at h; exact h, HF2.out⟩
            · have t3 : ((i : Int) == 9) = false := by simp; omega
              by_cases hz : s.rest[i].toNat = 0
              · have t6 : ((s.rest[i].toNat : Int) == 0) = true := by simp; omega
                by_cases hz0 : 0 < i
                · have t7 : decide ((0 : Int) < (i : Int)) = true := by first | (simp; done) | (simp; omega)
                  have t8 : decide (0 < i) = true := by first | (simp; done) | (simp; omega)
                  have HS := Lib.hid (HBAD.out 21 (by rw [← HDU.out, Wire.decU, if_neg h9, if_neg hb, if_pos ⟨hz, hz0⟩]))
                  clear h9 hb hz hz0
                  go_wp2
                  go_ret
                  rw [HS.out]
                  exact ⟨rfl, HFAIL.out 21⟩
                · have t7 : decide ((0 : Int) < (i : Int)) = false := by first | (simp; done) | (simp; omega)
                  have t8 : decide (0 < i) = false := by first | (simp; done) | (simp; omega)
                  have HS := Lib.hid (HOK.out v (i + 1) (by rw [← HDU.out, Wire.decU, if_neg h9, if_neg hb, if_neg (by omega), HV.out, show s.rest[i].toNat % 128 = s.rest[i].toNat by omega]))
                  have hx128 : s.rest[i].toNat % 128 = s.rest[i].toNat := by omega
                  have HB2 := Lib.hid (Blk.set H.out 0 (.string (s.rest.extract (i + 1) s.rest.size)))
                  have HF2 := Lib.hid ((Fr.refl w (fun k => k = b)).setCell ⟨b, 0, none⟩ (.string (s.rest.extract (i + 1) s.rest.size)) (fun _ => rfl))
                  have HX128 := Lib.hid hx128
                  clear h9 hb hz hx128
                  rcases Nat.mod_two_eq_zero_or_one v with h2 | h2
                  · have q1 : ((v : Int) % 2 == 1) = false := by simp; omega
                    have H2 := Lib.hid h2
                    clear h2
                    go_wp2
                    go_ret
                    rw [HS.out]
                    exact ⟨ret_int (unzz_ref0 v HVL.out H2.out), by have h := HB2.out; unfold RefAt St.take St.cells; unfold St.cells at h; rw [HE.out] at h; exact h, HF2.out⟩
                  · have q1 : ((v : Int) % 2 == 1) = true := by simp; omega
                    have H2 := Lib.hid h2
                    clear h2
                    go_wp2
                    go_ret
                    rw [HS.out]
                    exact ⟨ret_int (unzz_ref v HVL.out H2.out), by have h := HB2.out; unfold RefAt St.take St.cells; unfold St.cells at h; rw [HE.out] at h; exact h, HF2.out⟩
              · have t6 : ((s.rest[i].toNat : Int) == 0) = false := by simp; omega
                have HS := Lib.hid (HOK.out v (i + 1) (by rw [← HDU.out, Wire.decU, if_neg h9, if_neg hb, if_neg (by omega), HV.out, show s.rest[i].toNat % 128 = s.rest[i].toNat by omega]))
                have hx128 : s.rest[i].toNat % 128 = s.rest[i].toNat := by omega
                have HB2 := Lib.hid (Blk.set H.out 0 (.string (s.rest.extract (i + 1) s.rest.size)))
                have HF2 := Lib.hid ((Fr.refl w (fun k => k = b)).setCell ⟨b, 0, none⟩ (.string (s.rest.extract (i + 1) s.rest.size)) (fun _ => rfl))
                have HX128 := Lib.hid hx128
                clear h9 hb hz hx128
                rcases Nat.mod_two_eq_zero_or_one v with h2 | h2
                · have q1 : ((v : Int) % 2 == 1) = false := by simp; omega
                  have H2 := Lib.hid h2
                  clear h2
                  go_wp2
                  go_ret
                  rw [HS.out]
                  exact ⟨ret_int (unzz_ref0 v HVL.out H2.out), by have h := HB2.out; unfold RefAt St.take St.cells; unfold St.cells at h; rw [HE.out] at h; exact h, HF2.out⟩
                · have q1 : ((v : Int) % 2 == 1) = true := by simp; omega
                  have H2 := Lib.hid h2
                  clear h2
                  go_wp2
                  go_ret
                  rw [HS.out]
                  exact ⟨ret_int (unzz_ref v HVL.out H2.out), by have h := HB2.out; unfold RefAt St.take St.cells; unfold St.cells at h; rw [HE.out] at h; exact h, HF2.out⟩
  · have HS : Hid (s.int = (s, 0)) := Lib.hid (by unfold St.int; rw [if_pos he])
    have e1 : ((s.err : Int) != 0) = true := by simp; omega
    have e2 : ((s.err : Int) == 0) = false := by simp; omega
    clear he
    go_enter Try.func19, Try.ntmps19
    go_wp2
    go_ret
    rw [HS.out]
    exact ⟨rfl, H.out, Fr.refl _ _⟩
set_option maxRecDepth 20000 in
set_option maxHeartbeats 1000000 in
theorem rtext_any (b : Nat) (s : St) (w : World) (h : RefAt w b s) (hsz : s.rest.size ≤ 140737488351232) :
    Calls Try.prog 21 #[.pointer (some ⟨b, 0, none⟩)] w fun e w' => e = .returned (.string s.text.2) ∧ RefAt w' b s.text.1 ∧ Fr w w' (fun k => k = b) := by
  have HI := Lib.hid (rint_any b s w h)
  unfold St.text
  generalize s.int.1 = s1 at HI ⊢
  generalize s.int.2 = n at HI ⊢
  generalize hr : textOf s1 n = r
  have HT := Lib.hid hr
  clear hr h
  go_enter Try.func21, Try.ntmps21
  go_wp2_with fail
  refine HI.out.mono ?_
  rintro e w1 ⟨rfl, hU, hF⟩
  have U := Lib.hid hU
  have F1 := Lib.hid hF
  have c0 : w1.cell? ⟨b, 0, none⟩ = some (.string s1.rest) := hU.cell 0
  have c1 : w1.cell? ⟨b, 1, none⟩ = some (.int .i64 (s1.err : Int)) := hU.cell 1
  have f0 := hU.frozen 0
  have f1 := hU.frozen 1
  have HFAIL : Hid (∀ e : Nat, RefAt (w1.setCell ⟨b, 1, none⟩ (.int .i64 (e : Int))) b (s1.fail e) ∧ Fr w (w1.setCell ⟨b, 1, none⟩ (.int .i64 (e : Int))) (fun k => k = b)) := Lib.hid (fun e => ⟨Blk.set hU 1 _, F1.out.setCell _ _ (fun _ => rfl)⟩)
  clear hU hF
  by_cases he : s1.err = 0
  · rw [he] at c1
    have HE := Lib.hid he
    clear he
    by_cases h1 : n < 0
    · have t1 : decide (n < 0) = true := by simp [h1]
      have HR := HT.out
      unfold textOf at HR
      rw [if_neg (by have := HE.out; omega), if_pos h1] at HR
      have HR := Lib.hid HR
      clear h1
      go_wp2
      go_ret
      rw [← HR.out]
      exact ⟨rfl, HFAIL.out 21⟩
    · have t1 : decide (n < 0) = false := by simp; omega
      by_cases h2 : 1048576 < n
      · have t2 : decide (1048576 < n) = true := by simp [h2]
        have HR := HT.out
        unfold textOf at HR
        rw [if_neg (by have := HE.out; omega), if_neg h1, if_pos h2] at HR
        have HR := Lib.hid HR
        clear h1 h2
        go_wp2
        go_ret
        rw [← HR.out]
        exact ⟨rfl, HFAIL.out 1⟩
      · have t2 : decide (1048576 < n) = false := by simp; omega
        by_cases h3 : (s1.rest.size : Int) < n
        · have t3 : decide ((s1.rest.size : Int) < n) = true := by simp [h3]
          have HR := HT.out
          unfold textOf at HR
          rw [if_neg (by have := HE.out; omega), if_neg h1, if_neg h2, if_pos h3] at HR
          have HR := Lib.hid HR
          clear h1 h2 h3
          go_wp2
          go_ret
          rw [← HR.out]
          exact ⟨rfl, HFAIL.out 20⟩
        · have t3 : decide ((s1.rest.size : Int) < n) = false := by simp; omega
          have HR := HT.out
          unfold textOf at HR
          rw [if_neg (by have := HE.out; omega), if_neg h1, if_neg h2, if_neg h3] at HR
          have HR := Lib.hid HR
          obtain ⟨m, rfl⟩ : ∃ m : Nat, n = m := ⟨n.toNat, by omega⟩
          have hm : m ≤ s1.rest.size := by omega
          have hm2 : m ≤ 1048576 := by omega
          have B2 := Lib.hid (Blk.set U.out 0 (.string (s1.rest.extract m s1.rest.size)))
          have F2 := Lib.hid (F1.out.setCell ⟨b, 0, none⟩ (.string (s1.rest.extract m s1.rest.size)) (fun _ => rfl))
          clear h1 h2 h3
          go_wp2
          go_ret
          rw [← HR.out]
          exact ⟨rfl, by have h := B2.out; unfold RefAt St.take St.cells; unfold St.cells at h; rw [HE.out] at h; exact h, F2.out⟩
  · have HE := Lib.hid he
    have e1 : ((s1.err : Int) != 0) = true := by simp; omega
    have e2 : ((s1.err : Int) == 0) = false := by simp; omega
    have HR := HT.out
    unfold textOf at HR
    rw [if_pos he] at HR
    have HR := Lib.hid HR
    clear he
    go_wp2
    go_ret
    rw [← HR.out]
    exact ⟨rfl, U.out, F1.out⟩
set_option maxHeartbeats 1000000 in
theorem rend_any (s : St) (w : World) :
    Calls Try.prog 25 #[.agg s.cells.toArray] w fun e w' => e = .returned (.int .i64 (s.fin : Int)) ∧ Below w.heap.size w w' := by
  have HB := Lib.hid ((Below.refl w.heap.size w).alloc (Nat.le_refl _) (.cells #[.string s.rest, .int .i64 (s.err : Int)] 44))
  rw [show s.cells.toArray = #[.string s.rest, .int .i64 (s.err : Int)] from rfl]
  by_cases he : s.err = 0
  · rw [he] at HB ⊢
    have HE := Lib.hid he
    clear he
    by_cases hr : s.rest.data.toList = []
    · obtain ⟨e1, e2⟩ := (empty_facts s.rest).1 hr
      have HF : Hid (s.fin = 0) := Lib.hid (by unfold St.fin; rw [if_neg (by rintro ⟨_, h⟩; exact h hr)]; exact HE.out)
      clear hr
      go_enter Try.func25, Try.ntmps25
      go_wp2
      go_ret
      exact ⟨ret_int (by rw [HF.out]; rfl), HB.out⟩
    · obtain ⟨e1, e2⟩ := (empty_facts s.rest).2 hr
      have HF : Hid (s.fin = 22) := Lib.hid (by unfold St.fin; rw [if_pos ⟨HE.out, hr⟩])
      clear hr
      go_enter Try.func25, Try.ntmps25
      go_wp2
      go_ret
      exact ⟨ret_int (by rw [HF.out]; rfl), HB.out⟩
  · have HF : Hid (s.fin = s.err) := Lib.hid (by unfold St.fin; rw [if_neg (fun h => he h.1)])
    have e1 : ((s.err : Int) != 0) = true := by simp; omega
    have e2 : ((s.err : Int) == 0) = false := by simp; omega
    clear he
    go_enter Try.func25, Try.ntmps25
    go_wp2
    go_ret
    exact ⟨ret_int (by rw [HF.out]), HB.out⟩
set_option maxHeartbeats 1000000 in
theorem rbool_any (b : Nat) (s : St) (w : World) (h : RefAt w b s) :
    Calls Try.prog 23 #[.pointer (some ⟨b, 0, none⟩)] w fun e w' => e = .returned (.bool s.bool.2) ∧ RefAt w' b s.bool.1 ∧ Fr w w' (fun k => k = b) := by
  have c0 : w.cell? ⟨b, 0, none⟩ = some (.string s.rest) := h.cell 0
  have c1 : w.cell? ⟨b, 1, none⟩ = some (.int .i64 (s.err : Int)) := h.cell 1
  have f0 := h.frozen 0
  have f1 := h.frozen 1
  have HFAIL : Hid (∀ e : Nat, RefAt (w.setCell ⟨b, 1, none⟩ (.int .i64 (e : Int))) b (s.fail e) ∧ Fr w (w.setCell ⟨b, 1, none⟩ (.int .i64 (e : Int))) (fun k => k = b)) := Lib.hid (fun e => ⟨Blk.set h 1 _, (Fr.refl w _).setCell _ _ (fun _ => rfl)⟩)
  have U := Lib.hid h
  have HL : Hid (s.rest.data.toList.length = s.rest.size) := Lib.hid (by simp)
  clear h
  by_cases he : s.err = 0
  · rw [he] at c1
    have HE := Lib.hid he
    clear he
    cases hr : s.rest.data.toList with
    | nil =>
      obtain ⟨e1, e2⟩ := (empty_facts s.rest).1 hr
      have HS : Hid (s.bool = (s.fail 20, false)) := Lib.hid (by unfold St.bool; rw [if_neg (by have := HE.out; omega), hr])
      clear hr
      go_enter Try.func23, Try.ntmps23
      go_wp2
      go_ret
      rw [HS.out]
      exact ⟨rfl, HFAIL.out 20⟩
    | cons x l =>
      obtain ⟨e1, e2⟩ := (empty_facts s.rest).2 (by rw [hr]; simp)
      have hlt : 0 < s.rest.size := by rw [← HL.out, hr]; simp
      have hx : s.rest[0] = x := by
        have h := Lib.data_getElem? s.rest 0 hlt
        rw [hr] at h
        simpa using h.symm
      have hxl := x.toNat_lt
      by_cases h1 : 1 < x.toNat
      · have HS : Hid (s.bool = (s.fail 21, false)) := Lib.hid (by unfold St.bool; rw [if_neg (by have := HE.out; omega), hr]; dsimp only; rw [if_pos h1])
        have t1 : decide ((1 : Int) < (s.rest[0].toNat : Int)) = true := by rw [hx]; simp; omega
        clear hr hx h1 HL
        go_enter Try.func23, Try.ntmps23
        go_wp2
        go_ret
        rw [HS.out]
        exact ⟨rfl, HFAIL.out 21⟩
      · have HS : Hid (s.bool = (s.take 1, x.toNat == 1)) := Lib.hid (by unfold St.bool; rw [if_neg (by have := HE.out; omega), hr]; dsimp only; rw [if_neg h1])
        have t1 : decide ((1 : Int) < (s.rest[0].toNat : Int)) = false := by rw [hx]; simp; omega
        have HX := Lib.hid hx
        have B2 := Lib.hid (Blk.set U.out 0 (.string (s.rest.extract 1 s.rest.size)))
        have F2 := Lib.hid ((Fr.refl w (fun k => k = b)).setCell ⟨b, 0, none⟩ (.string (s.rest.extract 1 s.rest.size)) (fun _ => rfl))
        clear hr hx h1 HL
        go_enter Try.func23, Try.ntmps23
        go_wp2
        go_ret
        rw [HS.out]
        exact ⟨ret_bool (by rw [HX.out]; rw [Bool.eq_iff_iff]; simp; omega), by have h := B2.out; unfold RefAt St.take St.cells; unfold St.cells at h; rw [HE.out] at h; exact h, F2.out⟩
  · have HS : Hid (s.bool = (s, false)) := Lib.hid (by unfold St.bool; rw [if_pos he])
    have e1 : ((s.err : Int) != 0) = true := by simp; omega
    have e2 : ((s.err : Int) == 0) = false := by simp; omega
    clear he
    go_enter Try.func23, Try.ntmps23
    go_wp2
    go_ret
    rw [HS.out]
    exact ⟨rfl, U.out, Fr.refl _ _⟩
end Go.Proofs.Ytbpphflegjebaaa
