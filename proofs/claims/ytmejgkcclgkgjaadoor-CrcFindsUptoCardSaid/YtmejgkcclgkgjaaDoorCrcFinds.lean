/- CrcFinds: a byte that is changed is found in just its chunk. -/
import Derived.Test.YtmejgkcclgkgjaaDoorBad
import Derived.Test.YtmejgkcclgkgjaaDoorCrcBursts
import Derived.Test.YtmejgkcclgkgjaaDoorPFinds
import Derived.Test.YtmejgkcclgkgjaaDoorArr
import Derived.IntWalk
import Derived.Lib.QuietBelow
namespace Go.Proofs.YtmejgkcclgkgjaaDoor
open Go.RowKit Go.Sort
set_option linter.unusedVariables false
set_option linter.unusedSimpArgs false
def RPair (_ : World) (cs : List Value) (p : Int × Int) : Prop := cs = [.int .i64 p.1, .int .i64 p.2] ∧ True
theorem opens_pair (w : World) : Opens Tryd.prog w 35 RPair (fun p => vbulk [.int .i64 p.1, .int .i64 p.2]) :=
  opens_flat (n := 4) (ks := [.int .i64, .int .i64]) (by kernel_rfl) (fun p : Int × Int => [.int .i64 p.1, .int .i64 p.2]) (fun _ => True) fun cs h => by
    obtain ⟨a, d1, rfl, _, _, h1⟩ := h.i64_inv
    obtain ⟨b, d2, rfl, _, _, h2⟩ := h1.i64_inv
    obtain rfl := h2.nil_inv
    exact ⟨(a, b), rfl, trivial⟩
theorem mask255 (a : Int) : bits .and .i64 a 255 = a % 256 := by
  show IntKind.i64.wrap ((BitVec.ofInt 64 a &&& BitVec.ofInt 64 255).toNat : Int) = _
  rw [BitVec.toNat_and, show (BitVec.ofInt 64 255).toNat = 2 ^ 8 - 1 from rfl, Nat.and_two_pow_sub_one_eq_mod, BitVec.toNat_ofInt, IntKind.wrap_i64]
  omega
def xb (a : Int) : UInt8 := UInt8.ofNat (a % 256).toNat
theorem xb_i (a : Int) : a % 256 = ((xb a).toNat : Int) := by
  unfold xb
  rw [UInt8.toNat_ofNat']
  omega
theorem xb_ne {a : Int} (h : a % 256 ≠ 0) : xb a ≠ 0 := fun e => h (by rw [xb_i, e]; rfl)
theorem conv_cells {P : Program} {w : World} {B : Nat} {l : List UInt8} (h : ∀ j u, (bytes l)[j]? = some u → w.cell? ⟨B, j, none⟩ = some u) (src dst e : TypeId) (cap : Nat) (hs : P.underlying src = some (.slice e)) (he : P.underlying e = some (.int .u8)) (hd : P.underlying dst = some .string) (n : Nat) (hn : n = l.length) :
    (convert src dst (.slice (some ⟨B, 0, none⟩) n cap)).run P w = .ok (.string ⟨l.toArray⟩) w := by
  subst hn
  refine run_convert_bytes_back w src dst e ⟨B, 0, none⟩ cap l hs he hd fun j hj => ?_
  have e1 : (⟨B, 0, none⟩ : Addr).add j = ⟨B, j, none⟩ := by unfold Addr.add; split <;> simp_all
  rw [e1]
  exact h j _ (bytes_get (List.getElem?_eq_getElem hj))
theorem Tab.regrown {w : World} (h : Tab w) (p : Nat) (os : Array Obj) : Tab (grow (redrawn w p) os) := h.below (below_regrown w p os)
set_option maxHeartbeats 1000000 in
theorem crcFinds_walk0 (s : ByteArray) (hs : s.size ≤ 1048576) (size a0 a1 : Int) (hsz : size ≤ 9223372036854775807) (W : World) (ht : Tab W) (h : s.size = 0 ∨ a1 % 256 = 0) :
    Calls Tryd.prog 7 #[.string s, .int .i64 size, .agg #[.int .i64 a0, .int .i64 a1]] W fun e w' => e = .returned (.bool true) ∧ Below W.heap.size W w' := by
  have HT := Lib.hid (ht.below ((Below.refl _ W).alloc (Nat.le_refl _) (.cells #[.int .i64 a0, .int .i64 a1] 35)))
  have HB := Lib.hid ((Below.refl _ W).alloc (Nat.le_refl _) (.cells #[.int .i64 a0, .int .i64 a1] 35))
  have hm := mask255 a1
  clear ht hsz
  by_cases h0 : s.size = 0
  · have hs0 : ((s.size : Int) == 0) = true := by rw [h0]; rfl
    have H0 := Lib.hid h0
    clear h h0
    go_enter Tryd.func7, Tryd.ntmps7
    go_wp2_with fail
    refine (crcSpeaks_any _ HT.out).mono ?_
    rintro e w' ⟨rfl, rfl⟩
    go_wp2_with fail
    go_ret
    exact ⟨rfl, HB.out⟩
  · have hs0 : ((s.size : Int) == 0) = false := beq0 h0
    have h1 : a1 % 256 = 0 := by omega
    rw [h1] at hm
    have H0 := Lib.hid h0
    clear h h0 h1
    go_enter Tryd.func7, Tryd.ntmps7
    go_wp2_with fail
    refine (crcSpeaks_any _ HT.out).mono ?_
    rintro e w' ⟨rfl, rfl⟩
    go_wp2_with fail
    go_ret
    exact ⟨rfl, HB.out⟩
set_option maxHeartbeats 2000000 in
theorem crcFinds_walk1 (s : ByteArray) (hs : s.size ≤ 1048576) (size a0 a1 : Int) (hsz : size ≤ 9223372036854775807) (W : World) (ht : Tab W) (h0 : 0 < s.size) (h1 : a1 % 256 ≠ 0) :
    Calls Tryd.prog 7 #[.string s, .int .i64 size, .agg #[.int .i64 a0, .int .i64 a1]] W fun e w' => e = .returned (.bool true) ∧ Below W.heap.size W w' := by
  have HT := Lib.hid (ht.below ((Below.refl _ W).alloc (Nat.le_refl _) (.cells #[.int .i64 a0, .int .i64 a1] 35)))
  have HB := Lib.hid ((Below.refl _ W).alloc (Nat.le_refl _) (.cells #[.int .i64 a0, .int .i64 a1] 35))
  have HK := Lib.hid (Blk.new W [.int .i64 a0, .int .i64 a1] 35)
  rw [show ∀ a b : Value, ([a, b] : List Value).toArray = #[a, b] from fun _ _ => rfl] at HK
  have hm := mask255 a1
  have hs0 : ((s.size : Int) == 0) = false := beq0 (by omega)
  have hb : (a1 % 256 == 0) = false := by simp; omega
  have H1 := Lib.hid h1
  have HSZ := Lib.hid hsz
  have hwr : IntKind.i64.wrap ((s.size : Int) + 9) = (s.size : Int) + 9 := IntWalk.i64_in _ (by omega)
  clear ht hsz h1
  go_enter Tryd.func7, Tryd.ntmps7
  go_wp2_with fail
  generalize hw : W.alloc (.cells #[.int .i64 a0, .int .i64 a1] 35) = w at HT HB HK ⊢
  have HW : Hid (w.heap.size = W.heap.size + 1) := Lib.hid (by rw [← hw]; simp)
  clear hw
  refine (crcSpeaks_any w HT.out).mono ?_
  rintro e w' ⟨rfl, rfl⟩
  have k0 : w.cell? ⟨W.heap.size, 0, none⟩ = some (.int .i64 a0) := HK.out.cell 0
  have k1 : w.cell? ⟨W.heap.size, 1, none⟩ = some (.int .i64 a1) := HK.out.cell 1
  go_upto_region 5 with (fail)
  go_cut [29] (fun v wc => w = wc ∧ v = .bool (decide (size < 1) || decide ((s.size : Int) + 9 < size)))
  case first =>
    go_wp2_with fail
    all_goals go_meet
    all_goals exact ⟨rfl, by first | rfl | (congr 1; simp; omega)⟩
  obtain ⟨rfl, rfl⟩ := hcut
  go_upto_if 29 with (fail)
  go_cut [1] (fun v wc => w = wc ∧ ∃ m : Nat, v = .int .i64 ((m : Int) + 1) ∧ m ≤ s.size + 8)
  case first =>
    clear hwr
    go_wp2_with fail
    all_goals go_meet
    · exact ⟨rfl, 2, rfl, by omega⟩
    · exact ⟨rfl, (size - 1).toNat, val_int (by omega), by omega⟩
  obtain ⟨rfl, m, rfl, hmb⟩ := hcut
  go_upto_region 8 with (fail)
  go_cut [7, 39] (fun v7 v wc => w = wc ∧ v7 = .int .i64 a0 ∧ v = .bool (decide (a0 < 0) || decide ((s.size : Int) ≤ a0)))
  case first =>
    clear hwr
    go_wp2_with fail
    all_goals go_meet
    all_goals exact ⟨rfl, rfl, by first | rfl | (congr 1; simp; omega)⟩
  obtain ⟨rfl, rfl, rfl⟩ := hcut
  go_upto_if 39 with (fail)
  go_cut [7] (fun v wc => w = wc ∧ ∃ k : Nat, v = .int .i64 k ∧ k < s.size)
  case first =>
    clear hwr
    go_wp2_with fail
    all_goals go_meet
    · exact ⟨rfl, s.size - 1, val_int (by omega), by omega⟩
    · exact ⟨rfl, a0.toNat, by go_num, by omega⟩
  obtain ⟨rfl, k, rfl, hk⟩ := hcut
  clear hwr
  have HL : Hid (s.data.toList.length = s.size) := Lib.hid (by simp)
  have HSM : Hid (Chk.sumsZ ((m : Int) + 1) s.data.toList = Chk.sums m s.data.toList) := Lib.hid (by unfold Chk.sumsZ; rw [if_neg (by omega), show ((m : Int) + 1 - 1).toNat = m by omega])
  go_wp2_with fail
  refine (chunks_any ((m : Int) + 1) (by omega) s (by omega) (by omega) w HT.out).mono ?_
  rw [HSM.out]
  rintro e w1 ⟨v1, rfl, hO1, hB1⟩
  obtain ⟨p1, c1, rfl, hV1⟩ := Vw.of_own hO1
  have hbox := hB1.cell (p := ⟨W.heap.size, 1, none⟩) HK.out.lt
  have kx1 : w1.cell? ⟨W.heap.size, 1, none⟩ = some (.int .i64 a1) := hbox.trans k1
  have KX1 := Lib.hid kx1
  have T1 := Lib.hid (HT.out.below hB1)
  have V1 := Lib.hid hV1
  have B1 := Lib.hid (below_then HB.out (by have := HW.out; omega) hB1)
  have hzl : (Chk.sums m s.data.toList).length ≤ 1048576 := by
    have h3 := Chk.sums_len m s.data.toList
    have := HL.out
    omega
  generalize hz : (Chk.sums m s.data.toList).length = zl at V1 hzl ⊢
  have S1 : Hid (w.heap.size ≤ w1.heap.size) := Lib.hid hB1.size
  clear hO1 hB1 hV1 hbox k0 k1 kx1 hz
  have hcv := fun w => Lib.run_convert_string_bytes (P := Tryd.prog) w 9 27 5 s Tryd.underlying9 Tryd.underlying27 Tryd.underlying5
  go_wp2_with fail
  clear hcv
  have hbb := bytesWorld_below w1 5 s
  have HC := Lib.hid (bytesWorld_cells w1 5 s)
  have HBB := Lib.hid hbb
  have k1 : (Lib.bytesWorld w1 5 s).cell? ⟨W.heap.size, 1, none⟩ = some (.int .i64 a1) := (hbb.cell (p := ⟨W.heap.size, 1, none⟩) (by have := S1.out; have := HW.out; show W.heap.size < _; omega)).trans KX1.out
  clear hbb
  generalize Lib.bytesWorld w1 5 s = wb at HC HBB k1 ⊢
  clear KX1
  obtain ⟨old, hold⟩ : ∃ old, s.data.toList[k]? = some old := ⟨s.data.toList[k]'(by rw [HL.out]; exact hk), List.getElem?_eq_getElem _⟩
  obtain ⟨ck, fk⟩ := HC.out.get (bytes_get hold)
  have hxb := xb_i a1
  have HOLD := Lib.hid hold
  have ia : ((k : Int)).toNat = k := by omega
  have pa : (0 : Int) ≤ (k : Int) := by omega
  clear hold
  have hset := HC.out.set k (.int .u8 (bits .xor .u8 (old.toNat : Int) ((xb a1).toNat : Int))) (by rw [bytes_length, HL.out]; exact hk)
  rw [u8_xor_nat _ _ old.toNat_lt (xb a1).toNat_lt, ← UInt8.toNat_xor, bytes_set] at hset
  have HSET : Hid (Cells (wb.setCell ⟨w1.heap.size, k, none⟩ (.int .u8 (bits .xor .u8 (old.toNat : Int) ((xb a1).toNat : Int)))).drew w1.heap.size (bytes (s.data.toList.set k (old ^^^ xb a1)))) := Lib.hid (by
    rw [u8_xor_nat _ _ old.toNat_lt (xb a1).toNat_lt, ← UInt8.toNat_xor]
    exact hset)
  have HB9 : Hid (Below w1.heap.size w1 (wb.setCell ⟨w1.heap.size, k, none⟩ (.int .u8 (bits .xor .u8 (old.toNat : Int) ((xb a1).toNat : Int)))).drew) := Lib.hid (below_drewN (HBB.out.setCell (p := ⟨w1.heap.size, k, none⟩) (Nat.le_refl _) _) 1)
  clear hset
  go_region
  generalize (wb.setCell ⟨w1.heap.size, k, none⟩ (.int .u8 (bits .xor .u8 (old.toNat : Int) ((xb a1).toNat : Int)))).drew = w9 at HSET HB9 ⊢
  clear ck fk k1 HBB HC hxb
  have T9 := Lib.hid (T1.out.below HB9.out)
  have V9 := Lib.hid (V1.out.below HB9.out (Nat.le_refl _))
  have B9 := Lib.hid (below_then B1.out B1.out.size HB9.out)
  clear V1 T1 B1 HB9
  have hll : (s.data.toList.set k (old ^^^ xb a1)).length = s.size := by rw [List.length_set]; exact HL.out
  have hfin := Chk.finds_bad m s.data.toList k old (xb a1) HOLD.out (xb_ne H1.out)
  have hs2 : (⟨(s.data.toList.set k (old ^^^ xb a1)).toArray⟩ : ByteArray).size = s.size := by
    show (s.data.toList.set k (old ^^^ xb a1)).toArray.size = _
    rw [List.size_toArray]; exact hll
  have N1 := fun p os => Lib.hid (Calls.regrown_of (bad_c ((m : Int) + 1) (by omega) s hs p1 zl c1 _ (grow (redrawn w9 p) os) (V9.out.below (below_regrown w9 p os) (Nat.le_refl _)) (by omega) (T9.out.regrown p os)))
  have N2 := fun p os => Lib.hid (Calls.regrown_of (bad_c ((m : Int) + 1) (by omega) ⟨(s.data.toList.set k (old ^^^ xb a1)).toArray⟩ (by rw [hs2]; exact hs) p1 zl c1 _ (grow (redrawn w9 p) os) (V9.out.below (below_regrown w9 p os) (Nat.le_refl _)) (by omega) (T9.out.regrown p os)))
  have hbz : ∀ l, Chk.badZ ((m : Int) + 1) l (Chk.sums m s.data.toList) = Chk.badI (Chk.sums m l) (Chk.sums m s.data.toList) := fun l => by
    unfold Chk.badZ
    rw [if_neg (by omega)]
    unfold Chk.sumsZ
    rw [if_neg (by omega), show ((m : Int) + 1 - 1).toNat = m by omega]
  rw [hbz, Chk.badI_self] at N1
  rw [hbz, show (⟨(s.data.toList.set k (old ^^^ xb a1)).toArray⟩ : ByteArray).data.toList = s.data.toList.set k (old ^^^ xb a1) from rfl, hfin] at N2
  have hcv : ∀ n p os, (convert 27 9 (.slice (some ⟨w1.heap.size, 0, none⟩) s.size n)).run Tryd.prog (grow (redrawn w9 p) os) = .ok (.string ⟨(s.data.toList.set k (old ^^^ xb a1)).toArray⟩) (grow (redrawn w9 p) os) := fun n p os =>
    conv_cells (fun j u hu => cell_regrown ((HSET.out.get hu).1) p os) _ _ 5 _ Tryd.underlying27 Tryd.underlying5 Tryd.underlying9 _ hll.symm
  have hdiv : Int.tdiv (k : Int) ((m : Int) + 1) = ((k / (m + 1) : Nat) : Int) := by
    rw [show ((m : Int) + 1) = ((m + 1 : Nat) : Int) by omega, ← Int.ofNat_tdiv]
  have hdiv2 : (k : Int) / ((m : Int) + 1) = ((k / (m + 1) : Nat) : Int) := by
    rw [show ((m : Int) + 1) = ((m + 1 : Nat) : Int) by omega, ← Int.natCast_ediv]
  have hz0 : ((m : Int) + 1 == 0) = false := by simp; omega
  have hql : k / (m + 1) ≤ k := Nat.div_le_self _ _
  have HD := Lib.hid hdiv
  generalize k / (m + 1) = q at N2 hdiv hdiv2 hql
  have hne : ¬ ((m : Int) + 1 = 0) := by omega
  have hwq : IntKind.i64.wrap (q : Int) = (q : Int) := IntWalk.i64_in _ (by omega)
  clear hfin hs2 hll hbz HSET HD
  go_wp2_with fail
  refine wp_region_quiet_below (by kernel_rfl) (by kernel_rfl) ?_
  repeat (quiet_step (first | with_reducible exact (N1 _ _).out | with_reducible exact (N2 _ _).out))
  refine wpQuiet_nil ?_
  intro _ hw'
  obtain ⟨⟨dq, osq⟩, hw''⟩ := hw'
  subst hw''
  have HB2 := Lib.hid (below_then B9.out B9.out.size (below_regrown w9 dq osq))
  generalize grow (redrawn w9 dq) osq = w10 at HB2 ⊢
  go_wp2
  go_ret
  exact ⟨rfl, HB2.out⟩
theorem crcFinds_walk (W : World) (s : ByteArray) (hs : s.size ≤ 1048576) (size : Int) (wf : (Lit.int .i64 size).wf = true) (ca : Array Value) (p : Int × Int) (hp : RPair W ca.toList p) (hbk : vbulk [.int .i64 p.1, .int .i64 p.2] ≤ 1048576) (hL : laidMetH Tryd.prog Rows.crcFindsRow.laid W) :
    Calls Tryd.prog 7 #[.string s, .int .i64 size, .agg ca] W fun e w' => e = .returned (.bool true) ∧ Below W.heap.size W w' := by
  obtain rfl : ca = #[.int .i64 p.1, .int .i64 p.2] := by
    have h := hp.1
    cases ca
    simp at h
    rw [h]
  by_cases h : s.size = 0 ∨ p.2 % 256 = 0
  · exact crcFinds_walk0 s hs size p.1 p.2 (i64_of_wf wf).2 W (tab_of_laid hL) h
  · exact crcFinds_walk1 s hs size p.1 p.2 (i64_of_wf wf).2 W (tab_of_laid hL) (by omega) (by omega)
end Go.Proofs.YtmejgkcclgkgjaaDoor
