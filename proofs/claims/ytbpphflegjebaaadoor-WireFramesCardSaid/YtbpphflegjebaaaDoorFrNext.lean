/- The contract of the document's Next (printed by gen_frnext.py). -/
import Derived.Test.YtbpphflegjebaaaDoorFrRef
namespace Go.Proofs.YtbpphflegjebaaaDoor
open Go.RowKit Go.Sort
set_option linter.unusedVariables false
set_option linter.unusedSimpArgs false
def hi (r : ByteArray) : Nat → Nat
  | 0 => Fr4.val4 r
  | 1 => Fr4.bt r 1 + Fr4.bt r 2 * 256 + Fr4.bt r 3 * 65536
  | 2 => Fr4.bt r 2 + Fr4.bt r 3 * 256
  | 3 => Fr4.bt r 3
  | _ => 0
theorem bt_lt (r : ByteArray) (i : Nat) : Fr4.bt r i < 256 := u8lt _
theorem hi_zero (r : ByteArray) : hi r 0 = Fr4.val4 r := rfl
theorem hi_step (r : ByteArray) (j : Nat) (hj : j < 4) : hi r (j + 1) * 256 + Fr4.bt r j = hi r j := by
  match j, hj with
  | 0, _ => simp only [hi, Fr4.val4]; omega
  | 1, _ => simp only [hi]; omega
  | 2, _ => simp only [hi]; omega
  | 3, _ => simp only [hi]; omega
theorem hi_lt (r : ByteArray) : ∀ i, hi r i < 4294967296
  | 0 => by have := bt_lt r 0; have := bt_lt r 1; have := bt_lt r 2; have := bt_lt r 3; simp only [hi, Fr4.val4]; omega
  | 1 => by have := bt_lt r 0; have := bt_lt r 1; have := bt_lt r 2; have := bt_lt r 3; simp only [hi]; omega
  | 2 => by have := bt_lt r 2; have := bt_lt r 3; simp only [hi]; omega
  | 3 => by have := bt_lt r 3; simp only [hi]; omega
  | _ + 4 => by simp [hi]
theorem hi_w (r : ByteArray) (j : Nat) (pj : j < r.size) (hj : j < 4) : wrap64 (wrap64 ((hi r (j + 1) : Int) * 256) + wrap64 (r[j].toNat : Int)) = (hi r j : Int) := by
  have h1 := hi_step r j hj
  have h2 := hi_lt r j
  have h3 := hi_lt r (j + 1)
  rw [bt_get r j pj] at h1
  have h4 := u8lt r[j]
  rw [wrap64_small ((hi r (j + 1) : Int) * 256) (by omega) (by omega), wrap64_small (r[j].toNat : Int) (by omega) (by omega), wrap64_small _ (by omega) (by omega)]
  omega
theorem sub1_w (j : Nat) (hj : j < 4) : wrap64 ((j : Int) - 1) = (j : Int) - 1 := by unfold wrap64; omega
theorem rnext_v1 (k n c m : Nat) (h : k ≤ n) (hn : n ≤ 140737488351232) (hm : m ≤ 1048576) (hc : c = k + m) : wrap64 ((k : Int) + (m : Int)) = (c : Int) ∧ IntKind.i64.wrap ((k : Int) + (m : Int)) = (c : Int) := by
  rw [wrap64_small _ (by omega) (by omega), wrap_small _ (by omega) (by omega)]; omega
theorem rnext_v2 (k n c m d : Nat) (h : k ≤ n) (hn : n ≤ 140737488351232) (hm : m ≤ 1048576) (hc : c = k + m) (hd : d = c + 12) : wrap64 ((c : Int) + 12) = (d : Int) ∧ IntKind.i64.wrap ((c : Int) + 12) = (d : Int) := by
  rw [wrap64_small _ (by omega) (by omega), wrap_small _ (by omega) (by omega)]; omega
set_option maxRecDepth 40000 in
set_option maxHeartbeats 2000000 in
theorem rnext_any (s : ByteArray) (hs : s.size ≤ 140737488351232) (k : Nat) (hk : k ≤ s.size) (w : World) : Calls Tryd.prog 9 #[.string s, .int .i64 (k : Int)] w fun e w' => e = .returned (nextV (Fr4.next s k)) ∧ Below w.heap.size w w' := by
  have HK := Lib.hid hk
  have g1 : decide (s.size < k) = false := by simp; omega
  have g2 : decide ((s.size : Int) < (k : Int)) = false := by simp; omega
  have hkz : (k : Int) ≤ (s.size : Int) := by omega
  have ka : ((k : Int)).toNat = k := by omega
  have kb : (0 : Int) ≤ (k : Int) := by omega
  have HN : Hid (Fr4.next s k = if (Fr4.head (s.extract k s.size)).2 = 0 then ((s.extract k s.size).extract 8 (8 + (Fr4.head (s.extract k s.size)).1), k + 12 + (Fr4.head (s.extract k s.size)).1, 0) else (⟨#[]⟩, 0, (Fr4.head (s.extract k s.size)).2)) := Lib.hid rfl
  generalize Fr4.next s k = nx at HN ⊢
  go_enter Tryd.func9, Tryd.ntmps9
  go_upto_region 4 with (fail)
  have hrs : (s.extract k s.size).size = s.size - k := by simp
  generalize s.extract k s.size = r at hrs HN ⊢
  have hrl : r.size ≤ 140737488351232 := by omega
  have HRS := Lib.hid hrs
  have HERR : Hid (∀ e, Fr4.head r = (0, e) → e ≠ 0 → nx = (⟨#[]⟩, 0, e)) := Lib.hid (fun e h h0 => by rw [HN.out, h]; dsimp only; rw [if_neg h0])
  clear hrs g1 g2
  have HDR : Hid (r.data.toList.length = r.size) := Lib.hid (by simp)
  by_cases h0 : r.size = 0
  · have e1 : ((r.size : Int) == 0) = true := by rw [h0]; rfl
    have e2 : (r.size == 0) = true := by rw [h0]; rfl
    have HS := Lib.hid (HERR.out 3 (by unfold Fr4.head; rw [if_pos h0]) (by decide))
    clear h0
    go_wp2
    go_ret3
    exact ⟨ret_next HS.out, Below.refl _ _⟩
  · have e1 : ((r.size : Int) == 0) = false := beq_eq_false_iff_ne.2 (by omega)
    have e2 : (r.size == 0) = false := beq_eq_false_iff_ne.2 h0
    by_cases h8 : r.size < 8
    · have t1 : decide ((r.size : Int) < 8) = true := by simp; omega
      have HS := Lib.hid (HERR.out 23 (by unfold Fr4.head; rw [if_neg h0, if_pos h8]) (by decide))
      clear h0 h8
      go_wp2
      go_ret3
      exact ⟨ret_next HS.out, Below.refl _ _⟩
    · have t1 : decide ((r.size : Int) < 8) = false := by simp; omega
      have N1 := fun p os => Lib.hid (rsum_reg (r.extract 0 4) w (piece_max r _ _ hrl) p os)
      have N2 := fun p os => Lib.hid (rfour_reg _ (ext_lt0 (r.extract 0 4)) w p os)
      rw [show Fr4.four (Crc.ext 0 (r.extract 0 4).data.toList) = Fr4.sum (r.extract 0 4) from rfl, show (r.extract 0 4).data.toList = List.take 4 r.data.toList by simp] at N2
      by_cases hc : Fr4.sum (r.extract 0 4) = r.extract 4 8
      · obtain ⟨n1, n2⟩ := str_eqb hc
        have HC := Lib.hid hc
        have q8 : 8 ≤ r.size := by omega
        have q4 : 4 ≤ r.size := by omega
        have q8i : (8 : Int) ≤ (r.size : Int) := by omega
        have q4i : (4 : Int) ≤ (r.size : Int) := by omega
        have H0 := Lib.hid h0
        have H8 := Lib.hid h8
        clear h0 hc h8
        generalize Fr4.sum (r.extract 0 4) = sm at N2 n1 n2
        go_wp2
        refine wp_region_quiet_below (by kernel_rfl) (by kernel_rfl) ?_
        repeat (quiet_step (first | with_reducible exact (N1 _ _).out | with_reducible exact (N2 _ _).out))
        refine wpQuiet_nil ?_
        intro _ hw'
        obtain ⟨⟨dq, osq⟩, hw''⟩ := hw'
        subst hw''
        have HB2 := Lib.hid (below_regrown w dq osq)
        generalize grow (redrawn w dq) osq = w5 at HB2 ⊢
        clear N1 N2 n1 n2
        have HD : ∀ x : Nat, Hid (Fr4.head r = (if 1048576 < Fr4.val4 r then (0, 24) else if r.size < Fr4.val4 r + 12 then (0, 23) else if Fr4.sum (r.extract 8 (8 + Fr4.val4 r)) ≠ r.extract (8 + Fr4.val4 r) (12 + Fr4.val4 r) then (0, 24) else (Fr4.val4 r, 0))) := fun x => Lib.hid (by unfold Fr4.head; rw [if_neg H0.out, if_neg H8.out, if_neg (not_not_intro HC.out)])
        clear HC H0 H8 q4 q4i t1 e1 e2
        have V0 := Lib.hid (hi_zero r)
        have VS := Lib.hid (hi_step r)
        have VL := Lib.hid (hi_lt r)
        have HIX : ∀ x : Nat, Hid (hi r 0 = Fr4.val4 r) := fun x => V0
        generalize Fr4.val4 r = m at HD HIX
        go_wp2
        go_loopg [8, 9] 4 (fun g nv iv wr => ∃ (i : Nat), nv = .int .i64 (hi r i : Int) ∧ iv = .int .i64 ((i : Int) - 1) ∧ i ≤ 4 ∧ Hid (i = g) ∧ w5 = wr)
        case atStart => exact ⟨4, rfl, rfl, by omega, Lib.hid rfl, rfl⟩
        case round =>
        obtain ⟨i, rfl, rfl, hi4, HIG, rfl⟩ := hrel
        cases i with
        | succ j =>
          rw [show (((j + 1 : Nat) : Int) - 1) = (j : Int) by omega]
          have t1 : decide ((0 : Int) ≤ (j : Int)) = true := by simp
          have p0 : (0 : Int) ≤ (j : Int) := by omega
          have p1 : ((j : Int)).toNat = j := by omega
          have pj : j < r.size := by omega
          have pji : (j : Int) < (r.size : Int) := by omega
          have pv : wrap64 (wrap64 ((hi r (j + 1) : Int) * 256) + wrap64 (r[j].toNat : Int)) = (hi r j : Int) := hi_w r j pj (by omega)
          have pn : wrap64 ((j : Int) - 1) = (j : Int) - 1 := sub1_w j (by omega)
          go_wp2
          go_roundg j
          case measure => have := HIG.out; omega
          case rel => exact ⟨j, by first | exact val_int pv | rfl, by first | exact val_int pn | rfl, by omega, Lib.hid rfl, rfl⟩
        | zero =>
        rw [(HIX 0).out]
        have t0 : decide ((0 : Int) ≤ ((0 : Nat) : Int) - 1) = false := by decide
        clear V0 VS VL HIX
        by_cases hm : 1048576 < m
        · have t1 : decide ((1048576 : Int) < (m : Int)) = true := by simp; omega
          have HS := Lib.hid (HERR.out 24 (by rw [(HD 0).out, if_pos hm]) (by decide))
          clear hm
          go_wp2
          go_ret3
          exact ⟨ret_next HS.out, HB2.out⟩
        · have t1 : decide ((1048576 : Int) < (m : Int)) = false := by simp; omega
          have hm2 : m ≤ 1048576 := by omega
          have hw : wrap64 ((m : Int) + 4) = (m : Int) + 4 := wrap64_small _ (by omega) (by omega)
          have hw2 : wrap64 ((r.size : Int) - 8) = (r.size : Int) - 8 := wrap64_small _ (by omega) (by omega)
          by_cases hl : r.size < m + 12
          · have t2 : decide ((r.size : Int) - 8 < (m : Int) + 4) = true := by simp; omega
            have HS := Lib.hid (HERR.out 23 (by rw [(HD 0).out, if_neg hm, if_pos hl]) (by decide))
            clear hm hm2 hl
            go_wp2
            go_ret3
            exact ⟨ret_next HS.out, HB2.out⟩
          · have t2 : decide ((r.size : Int) - 8 < (m : Int) + 4) = false := by simp; omega
            obtain ⟨e8, E8⟩ : ∃ e8, e8 = 8 + m := ⟨_, rfl⟩
            obtain ⟨e12, E12⟩ : ∃ e12, e12 = 12 + m := ⟨_, rfl⟩
            have t3 : (e8 : Int) ≤ (r.size : Int) := by omega
            have t4 : (e12 : Int) ≤ (r.size : Int) := by omega
            have t7 : e8 ≤ r.size := by omega
            have t8 : e12 ≤ r.size := by omega
            have ta : (8 : Int) ≤ (e8 : Int) := by omega
            have td : 8 ≤ e8 := by omega
            have tb : (e8 : Int) ≤ (e12 : Int) := by omega
            have te : e8 ≤ e12 := by omega
            have v8 : IntKind.i64.wrap ((8 : Int) + (m : Int)) = (e8 : Int) := wrap_e8 m e8 E8 hm2
            have v12 : IntKind.i64.wrap ((12 : Int) + (m : Int)) = (e12 : Int) := wrap_e12 m e12 E12 hm2
            have x8 : wrap64 ((8 : Int) + (m : Int)) = (e8 : Int) := wrap64_e8 m e8 E8 hm2
            have x12 : wrap64 ((12 : Int) + (m : Int)) = (e12 : Int) := wrap64_e12 m e12 E12 hm2
            have HE := Lib.hid E8
            have E8E := Lib.hid E12
            rw [← E8, ← E12] at HD
            clear E8 E12
            have N1 := fun p os => Lib.hid (rsum_reg (r.extract 8 e8) w5 (piece_max r _ _ hrl) p os)
            have N2 := fun p os => Lib.hid (rfour_reg _ (ext_lt0 (r.extract 8 e8)) w5 p os)
            rw [show Fr4.four (Crc.ext 0 (r.extract 8 e8).data.toList) = Fr4.sum (r.extract 8 e8) from rfl, piece_list r 8 e8] at N2
            by_cases hc : Fr4.sum (r.extract 8 e8) = r.extract e8 e12
            · obtain ⟨n1, n2⟩ := str_eqb hc
              have hh : Fr4.head r = (m, 0) := by rw [(HD 0).out, if_neg hm, if_neg hl, if_neg (not_not_intro hc)]
              have HS : Hid (nx = (r.extract 8 e8, k + 12 + m, 0)) := Lib.hid (by rw [HN.out, hh, HE.out]; rfl)
              clear hh
              obtain ⟨c, Ec⟩ : ∃ c, c = k + m := ⟨_, rfl⟩
              obtain ⟨d, Ed⟩ : ∃ d, d = c + 12 := ⟨_, rfl⟩
              obtain ⟨u1, u2⟩ := rnext_v1 k _ c m HK.out hs hm2 Ec
              obtain ⟨u3, u4⟩ := rnext_v2 k _ c m d HK.out hs hm2 Ec Ed
              rw [show k + 12 + m = d by omega] at HS
              clear hm hm2 hl hc Ec Ed
              generalize Fr4.sum (r.extract 8 e8) = sm2 at N2 n1 n2
              go_wp2
              refine wp_region_quiet_below (by kernel_rfl) (by kernel_rfl) ?_
              repeat (quiet_step (first | with_reducible exact (N1 _ _).out | with_reducible exact (N2 _ _).out))
              refine wpQuiet_nil ?_
              intro _ hw'
              obtain ⟨⟨dq2, osq2⟩, hw''⟩ := hw'
              subst hw''
              have HB4 := Lib.hid (below_then HB2.out HB2.out.size (below_regrown w5 dq2 osq2))
              generalize grow (redrawn w5 dq2) osq2 = w7 at HB4 ⊢
              clear N1 N2 n1 n2
              go_wp2
              go_ret3
              exact ⟨ret_next2 HS.out, HB4.out⟩
            · obtain ⟨n1, n2⟩ := str_ne hc
              have HS := Lib.hid (HERR.out 24 (by rw [(HD 0).out, if_neg hm, if_neg hl, if_pos hc]) (by decide))
              clear hm hm2 hl hc
              generalize Fr4.sum (r.extract 8 e8) = sm2 at N2 n1 n2
              go_wp2
              refine wp_region_quiet_below (by kernel_rfl) (by kernel_rfl) ?_
              repeat (quiet_step (first | with_reducible exact (N1 _ _).out | with_reducible exact (N2 _ _).out))
              refine wpQuiet_nil ?_
              intro _ hw'
              obtain ⟨⟨dq2, osq2⟩, hw''⟩ := hw'
              subst hw''
              have HB4 := Lib.hid (below_then HB2.out HB2.out.size (below_regrown w5 dq2 osq2))
              generalize grow (redrawn w5 dq2) osq2 = w7 at HB4 ⊢
              clear N1 N2 n1 n2
              go_wp2
              go_ret3
              exact ⟨ret_next HS.out, HB4.out⟩
      · obtain ⟨n1, n2⟩ := str_ne hc
        have HS := Lib.hid (HERR.out 24 (by unfold Fr4.head; rw [if_neg h0, if_neg h8, if_pos hc]) (by decide))
        have HC := Lib.hid hc
        have q8 : 8 ≤ r.size := by omega
        have q4 : 4 ≤ r.size := by omega
        have q8i : (8 : Int) ≤ (r.size : Int) := by omega
        have q4i : (4 : Int) ≤ (r.size : Int) := by omega
        clear h0 hc h8
        generalize Fr4.sum (r.extract 0 4) = sm at N2 n1 n2
        go_wp2
        refine wp_region_quiet_below (by kernel_rfl) (by kernel_rfl) ?_
        repeat (quiet_step (first | with_reducible exact (N1 _ _).out | with_reducible exact (N2 _ _).out))
        refine wpQuiet_nil ?_
        intro _ hw'
        obtain ⟨⟨dq, osq⟩, hw''⟩ := hw'
        subst hw''
        have HB2 := Lib.hid (below_regrown w dq osq)
        generalize grow (redrawn w dq) osq = w5 at HB2 ⊢
        go_wp2
        go_ret3
        exact ⟨ret_next HS.out, HB2.out⟩
end Go.Proofs.YtbpphflegjebaaaDoor
