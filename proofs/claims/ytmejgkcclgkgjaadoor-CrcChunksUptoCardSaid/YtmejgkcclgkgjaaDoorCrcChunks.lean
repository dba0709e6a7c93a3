/- CrcChunks: the checksums of chunks of every size, and the first chunk that is bad; lists stay as they were. -/
import Derived.Test.YtmejgkcclgkgjaaDoorRBad
import Derived.Test.YtmejgkcclgkgjaaDoorCrcSums
import Derived.Lib.QuietBelow
namespace Go.Proofs.YtmejgkcclgkgjaaDoor
open Go.RowKit Go.Sort
set_option linter.unusedVariables false
set_option linter.unusedSimpArgs false
theorem opens_u32s (w : World) : Opens Tryd.prog w 30 (RSl 1 4 (fun _ cs (x : Nat) => cs = [.int .u32 (x : Int)] ∧ x < 4294967296)) (bulkL fun x => vbulk [.int .u32 (x : Int)]) :=
  opens_slice (e := 22) (sz := 1) (bytes := 4) Tryd.underlying30 (by kernel_rfl) (by kernel_rfl) (by decide) (opens_flat (n := 4) (ks := [.int .u32]) (by kernel_rfl) (fun x : Nat => [.int .u32 (x : Int)]) (fun x => x < 4294967296) fun cs h => by
    obtain ⟨v, ds, rfl, ⟨n, rfl, hn⟩, h2⟩ := h.cons_inv
    obtain rfl := h2.nil_inv
    have hx : 0 ≤ n ∧ n ≤ 4294967295 := by simpa [Lit.wf, IntKind.min, IntKind.max, IntKind.signed, IntKind.bits] using hn
    exact ⟨n.toNat, by rw [Int.toNat_of_nonneg hx.1], by omega⟩)
theorem vbulk1 (x : Nat) : vbulk [.int .u32 (x : Int)] = 1 := rfl
theorem bulk_u32s (xs : List Nat) : bulkL (fun x : Nat => vbulk [.int .u32 (x : Int)]) xs = xs.length + 1 := by
  unfold bulkL
  congr 1
  induction xs with
  | nil => rfl
  | cons x xs ih => rw [List.map_cons, List.sum_cons, ih, vbulk1, List.length_cons]; omega
theorem same_eq (p q : Option Addr) (n c n2 c2 : Nat) (xs : List Nat) (w : World) (h1 : Vw w 1 p n c (w32 xs)) (h2 : Vw w 1 q n2 c2 (w32 xs)) (hn : n ≤ 140737488355328) (hn2 : n2 ≤ 140737488355328) :
    Calls Tryd.prog 17 #[.slice p n c, .slice q n2 c2] w fun e w' => e = .returned (.bool true) ∧ ∃ k, w' = w.drewN k :=
  (same_c p q n c n2 c2 xs xs w h1 h2 hn hn2).mono fun e w' h => ⟨by rw [h.1]; simp, h.2⟩
structure Bun (W w2 w : World) (zs : List Nat) (m : Nat) (p1 : Option Addr) (c1 : Nat) (p3 : Option Addr) (c3 : Nat) : Prop where
  b : Below W.heap.size W w
  s : w2.heap.size ≤ w.heap.size
  v1 : Vw w 1 p1 m c1 (w32 zs)
  v3 : Vw w 1 p3 m c3 (w32 zs)
theorem Bun.below {W w2 w w' : World} {zs : List Nat} {m : Nat} {p1 : Option Addr} {c1 : Nat} {p3 : Option Addr} {c3 : Nat} (h : Bun W w2 w zs m p1 c1 p3 c3) (hb : Below w.heap.size w w') : Bun W w2 w' zs m p1 c1 p3 c3 :=
  ⟨below_then h.b h.b.size hb, Nat.le_trans h.s hb.size, h.v1.below hb (Nat.le_refl _), h.v3.below hb (Nat.le_refl _)⟩
theorem Bun.drewN {W w2 w : World} {zs : List Nat} {m : Nat} {p1 : Option Addr} {c1 : Nat} {p3 : Option Addr} {c3 : Nat} (h : Bun W w2 w zs m p1 c1 p3 c3) (k : Nat) : Bun W w2 (w.drewN k) zs m p1 c1 p3 c3 :=
  ⟨below_drewN h.b k, h.s, h.v1, h.v3⟩
def AllU (l : List Value) : Prop := ∀ v ∈ l, ∃ x, v = .int .u32 x
theorem allU_w32 (l : List Nat) : AllU (w32 l) := fun v hv => by
  obtain ⟨x, _, rfl⟩ := List.mem_map.1 hv
  exact ⟨_, rfl⟩
theorem allU_set {l : List Value} (h : AllU l) (i : Nat) (x : Int) : AllU (l.set i (.int .u32 x)) := fun v hv => by
  rcases List.mem_or_eq_of_mem_set hv with h1 | h1
  · exact h v h1
  · exact ⟨x, h1⟩
set_option maxHeartbeats 2000000 in
set_option maxRecDepth 20000 in
theorem crcChunks_walk (W : World) (s : ByteArray) (hs : s.size ≤ 1048576) (size : Int) (wf : (Lit.int .i64 size).wf = true) (A : Option Addr) (n c : Nat) (xs : List Nat) (hx : RSl 1 4 (fun _ cs (x : Nat) => cs = [.int .u32 (x : Int)] ∧ x < 4294967296) W [.slice A n c] xs) (hbulk : bulkL (fun x : Nat => vbulk [.int .u32 (x : Int)]) xs ≤ 1048576) (hL : laidMetH Tryd.prog Rows.crcChunksRow.laid W) :
    Calls Tryd.prog 6 #[.string s, .int .i64 size, .slice A n c] W fun e w' => e = .returned (.bool true) ∧ Below W.heap.size W w' := by
  have hsz : size ≤ 9223372036854775807 := (i64_of_wf wf).2
  rw [bulk_u32s] at hbulk
  obtain ⟨hxl, _, _, hV0⟩ := vw_rsl1 hx
  have HT : Hid (Tab W) := Lib.hid (tab_of_laid hL)
  have hn : n ≤ 1048576 := by omega
  have HV0 : Hid (Vw W 1 A n c (w32 xs)) := Lib.hid hV0
  have HXL := Lib.hid hxl
  clear hx hV0 hL wf hbulk hxl
  have HS := Lib.hid hs
  have HSZ := Lib.hid hsz
  have hbd : Chk.badZ size s.data.toList (Chk.sumsZ size s.data.toList) = if size < 1 then 0 else -1 := by
    unfold Chk.badZ
    split
    · rfl
    · exact Chk.badI_self _
  have HBD := Lib.hid hbd
  have hZL : (Chk.sumsZ size s.data.toList).length ≤ 1048576 := by
    have h3 := sumsZ_len size s.data.toList
    have e : s.data.toList.length = s.size := by simp
    omega
  clear hs hsz hbd
  obtain ⟨zs, hzs⟩ : ∃ zs, Chk.sumsZ size s.data.toList = zs := ⟨_, rfl⟩
  have HZS := Lib.hid hzs
  rw [hzs] at hZL HBD
  clear hzs
  have HR : ∀ w, Hid (Calls Tryd.prog 15 #[.string s, .int .i64 size] w fun e W' => ∃ v, e = .returned v ∧ W'.ownsRow w.heap.size 22 1 v zs.length (w32 zs) ∧ Below w.heap.size w W') := fun w => Lib.hid (by
    have := rchunks_any size HSZ.out s HS.out w
    rw [HZS.out] at this; exact this)
  have HCH : ∀ w, Tab w → Hid (Calls Tryd.prog 16 #[.string s, .int .i64 size] w fun e W' => ∃ v, e = .returned v ∧ W'.ownsRow w.heap.size 22 1 v zs.length (w32 zs) ∧ Below w.heap.size w W') := fun w ht => Lib.hid (by
    have := chunks_any size HSZ.out s (by have := HS.out; omega) (by have := HS.out; omega) w ht
    rw [HZS.out] at this; exact this)
  obtain ⟨m, hml⟩ : ∃ m, m = zs.length := ⟨_, rfl⟩
  rw [← hml] at hZL HR HCH
  have HML := Lib.hid hml
  have HR := Lib.hid HR
  have HCH := Lib.hid HCH
  clear hml
  go_enter Tryd.func6, Tryd.ntmps6
  go_wp2_with fail
  refine (crcSpeaks_any W HT.out).mono ?_
  rintro e w' ⟨rfl, rfl⟩
  go_wp2_with fail
  refine (HR.out W).out.mono ?_
  rintro e w1 ⟨v1, rfl, hO1, hB1⟩
  obtain ⟨p1, c1, rfl, hV1⟩ := Vw.of_own hO1
  have WS : Hid (W.heap.size ≤ w1.heap.size) := Lib.hid hB1.size
  have P1 : Hid (∀ a, p1 = some a → W.heap.size ≤ a.block ∧ a.block < w1.heap.size) := Lib.hid fun a e => by subst e; exact hO1.lt _ rfl
  have T1 := Lib.hid (HT.out.below hB1)
  have V1 := Lib.hid hV1
  have A1 := Lib.hid (HV0.out.below hB1 (Nat.le_refl _))
  have B1 := Lib.hid hB1
  clear hO1 hB1 hV1
  go_wp2_with fail
  refine ((HCH.out w1 T1.out).out).mono ?_
  rintro e w2 ⟨v2, rfl, hO2, hB2⟩
  obtain ⟨p2, c2, rfl, hV2⟩ := Vw.of_own hO2
  have P2 : Hid (∀ a, p2 = some a → w1.heap.size ≤ a.block ∧ a.block < w2.heap.size) := Lib.hid fun a e => by subst e; exact hO2.lt _ rfl
  have T2 := Lib.hid (T1.out.below hB2)
  have V2 := Lib.hid (V1.out.below hB2 (Nat.le_refl _))
  have A2 := Lib.hid (A1.out.below hB2 (Nat.le_refl _))
  have B2 := Lib.hid (below_then B1.out B1.out.size hB2)
  have S12 : Hid (w1.heap.size ≤ w2.heap.size) := Lib.hid hB2.size
  have O2 := Lib.hid hO2
  clear hO2 hB2 hV2
  go_wp2_with fail
  refine ((HCH.out w2 T2.out).out).mono ?_
  rintro e w3 ⟨v3, rfl, hO3, hB3⟩
  obtain ⟨p3, c3, rfl, hV3⟩ := Vw.of_own hO3
  have P3 : Hid (∀ a, p3 = some a → w2.heap.size ≤ a.block ∧ a.block < w3.heap.size) := Lib.hid fun a e => by subst e; exact hO3.lt _ rfl
  have T3 := Lib.hid (T2.out.below hB3)
  have V3 := Lib.hid (V2.out.below hB3 (Nat.le_refl _))
  have U3 := Lib.hid hV3
  have A3 := Lib.hid (A2.out.below hB3 (Nat.le_refl _))
  have B3 := Lib.hid (below_then B2.out B2.out.size hB3)
  have O3 := Lib.hid (own_below O2.out hB3 (Nat.le_refl _))
  have S23 : Hid (w2.heap.size ≤ w3.heap.size) := Lib.hid hB3.size
  clear hO3 hB3 hV3
  go_wp2_with (at_builtin
               refine wpList_appv rfl _ _ 30 rfl w3.heap.size 22 _ 1 4 Tryd.underlying30 u32_info rfl (by decide) _ 0 [] rfl (own_fresh0 w3 w3.heap.size 22 1 (Nat.le_refl _)) A n c (w32 xs) rfl (A3.out.alloc _) (fun u hu => by obtain ⟨x, _, rfl⟩ := List.mem_map.1 hu; rfl) (by unfold maxLen; omega) (by omega) (by simp) ?_
               intro v4 w4 hO4 hG4 hN4
               obtain ⟨p4, c4, hv4, hV4⟩ := Vw.of_own hO4.out
               subst hv4)
  have hb4 : Below w3.heap.size w3 w4 := ((Below.refl _ w3).alloc (Nat.le_refl _) _).grown hG4.out (by simp) (fun k e => by cases e; exact Nat.le_refl _)
  have Z := Lib.hid ((⟨B3.out, S23.out, V3.out, U3.out⟩ : Bun W w2 w3 zs m p1 c1 p3 c3).below hb4)
  have O4 := Lib.hid (own_below O3.out hb4 (Nat.le_refl _))
  have F4 := Lib.hid (Vw.of_own_at O4.out)
  have A4 := Lib.hid (A3.out.below hb4 (Nat.le_refl _))
  rw [Nat.zero_add, List.nil_append] at hV4
  have I4 := Lib.hid hV4
  clear hV4 hG4 hN4 hO4 hb4 O3 A3 U3 V3 T3 B3 O2 A2 V2 T2 B2 A1 V1 T1 B1
  refine (same_eq p2 p1 m c2 m c1 zs w4 F4.out Z.out.v1 (by omega) (by omega)).mono ?_
  rintro e w' ⟨rfl, k1, rfl⟩
  go_wp2_with fail
  refine (same_eq p3 p1 m c3 m c1 zs (w4.drewN k1) Z.out.v3 Z.out.v1 (by omega) (by omega)).mono ?_
  rintro e w' ⟨rfl, k2, rfl⟩
  have HBX : ∀ w, Hid (Vw w 1 p4 n c4 (w32 xs)) → Tab w → Hid (Calls Tryd.prog 18 #[.string s, .int .i64 size, .slice p4 n c4] w fun e w' => e = .returned (.int .i64 (Chk.badZ size s.data.toList xs)) ∧ Below w.heap.size w w') := fun w h ht =>
    Lib.hid (bad_c size HSZ.out s HS.out p4 n c4 xs w h.out (by omega) ht)
  have HBY : ∀ w, Hid (Vw w 1 A n c (w32 xs)) → Hid (Calls Tryd.prog 19 #[.string s, .int .i64 size, .slice A n c] w fun e w' => e = .returned (.int .i64 (Chk.badZ size s.data.toList xs)) ∧ Below w.heap.size w w') := fun w h =>
    Lib.hid (rbad_c size HSZ.out s HS.out A n c xs w h.out (by omega))
  have HBZ : ∀ w, Hid (Vw w 1 p1 m c1 (w32 zs)) → Tab w → Hid (Calls Tryd.prog 18 #[.string s, .int .i64 size, .slice p1 m c1] w fun e w' => e = .returned (.int .i64 (if size < 1 then 0 else -1)) ∧ Below w.heap.size w w') := fun w h ht =>
    Lib.hid (by
      have := bad_c size HSZ.out s HS.out p1 m c1 zs w h.out (by omega) ht
      rw [HBD.out] at this; exact this)
  generalize Chk.badZ size s.data.toList xs = bz at HBX HBY
  have HBX := Lib.hid HBX
  have HBY := Lib.hid HBY
  have HBZ := Lib.hid HBZ
  go_wp2_with fail
  refine ((HBX.out (w4.drewN (k1 + k2)) I4 (HT.out.below (Z.out.drewN (k1 + k2)).b)).out).mono ?_
  rintro e w5 ⟨rfl, hb5⟩
  have Z5 := Lib.hid ((Z.out.drewN (k1 + k2)).below hb5)
  have O5 := Lib.hid (own_below (own_drewN O4.out (k1 + k2)) hb5 (Nat.le_refl _))
  have A5 := Lib.hid ((A4.out.drewN (k1 + k2)).below hb5 (Nat.le_refl _))
  have I5 := Lib.hid ((I4.out.drewN (k1 + k2)).below hb5 (Nat.le_refl _))
  clear hb5 Z O4 A4 I4 F4
  go_wp2_with fail
  refine ((HBY.out _ A5).out).mono ?_
  rintro e w6 ⟨rfl, hb6⟩
  have Z6 := Lib.hid (Z5.out.below hb6)
  have O6 := Lib.hid (own_below O5.out hb6 (Nat.le_refl _))
  have A6 := Lib.hid (A5.out.below hb6 (Nat.le_refl _))
  have I6 := Lib.hid (I5.out.below hb6 (Nat.le_refl _))
  clear hb6 Z5 O5 A5 I5
  go_wp2_with fail
  refine (same_eq p4 A n c4 n c xs _ I6.out A6.out (by omega) (by omega)).mono ?_
  rintro e w' ⟨rfl, k3, rfl⟩
  have Z7 := Lib.hid (Z6.out.drewN k3)
  have O7 := Lib.hid (own_drewN O6.out k3)
  clear Z6 O6 A6 I6
  generalize w6.drewN k3 = w7 at Z7 O7 ⊢
  go_wp2
  go_loopg [11] m (fun g v11 wr => ∃ (i : Nat) (ls : List Value), v11 = .int .i64 i ∧ i ≤ m ∧ m ≤ g + i ∧ Hid (AllU ls) ∧ Hid (wr.ownsRow w1.heap.size 22 1 (.slice p2 m c2) m ls) ∧ Hid (Fr w7 wr fun k => w1.heap.size ≤ k ∧ k < w2.heap.size))
  case atStart => exact ⟨0, _, rfl, Nat.zero_le _, by omega, Lib.hid (allU_w32 zs), O7, Lib.hid (Fr.refl _ _)⟩
  case round =>
    clear O7
    obtain ⟨i, ls, rfl, hi, hg, HA, HO, HF⟩ := hrel
    by_cases hlt : i < m
    · have hltz : (i : Int) < (m : Int) := by omega
      obtain ⟨g2, cap2, he, hb2, hg2, _⟩ := own_some HO.out (by omega)
      cases he
      have hll : ls.length = m := by have := HO.out.1; omega
      obtain ⟨u, hu⟩ : ∃ u, ls[i]? = some u := ⟨ls[i]'(by omega), List.getElem?_eq_getElem _⟩
      obtain ⟨x, rfl⟩ := HA.out u (List.mem_of_getElem? hu)
      have k0 := (HO.out.cellAt i (by omega)).trans hu
      have kf := HO.out.frozenAt i
      have hst := HO.out.stored i (.int .u32 (bits .xor .u32 x 77))
      have HST := Lib.hid hst
      have ia : ((i : Int)).toNat = i := by omega
      have pa : (0 : Int) ≤ (i : Int) := by omega
      have hS : w1.heap.size ≤ g2 ∧ g2 < w2.heap.size := P2.out _ rfl
      have HSS := Lib.hid hS
      clear hll hu hst hb2 hg2 hS
      go_wp2
      go_roundg (m - (i + 1))
      case measure => omega
      case rel => exact ⟨i + 1, _, by first | rfl | go_num, by omega, by omega, Lib.hid (allU_set HA.out i _), Lib.hid HST.out.1, Lib.hid (HF.out.setCell _ _ (fun _ => HSS.out))⟩
    · have hltz : ¬ (i : Int) < (m : Int) := by omega
      have Zr : Hid (Bun W w2 wr zs m p1 c1 p3 c3) := Lib.hid (by
        refine ⟨?_, Nat.le_trans Z7.out.s HF.out.size, ?_, ?_⟩
        · exact ⟨HF.out.os.trans Z7.out.b.os, HF.out.tape.trans Z7.out.b.tape, HF.out.output.trans Z7.out.b.output, Nat.le_trans Z7.out.b.size HF.out.size, fun k hk => (HF.out.block k (Nat.lt_of_lt_of_le hk Z7.out.b.size) (fun h => by have := h.1; have := WS.out; omega)).trans (Z7.out.b.block k hk)⟩
        · exact Z7.out.v1.fr HF.out (fun a e _ h => by have := (P1.out a e).2; have := h.1; omega)
        · exact Z7.out.v3.fr HF.out (fun a e _ h => by have := (P3.out a e).1; have := h.2; omega))
      by_cases h1 : size < 1
      · have d1 : decide (size < 1) = true := by simp; omega
        have H1 := Lib.hid h1
        clear h1
        go_wp2_with fail
        refine (same_eq p3 p1 m c3 m c1 zs wr Zr.out.v3 Zr.out.v1 (by omega) (by omega)).mono ?_
        rintro e w' ⟨rfl, k4, rfl⟩
        have Z8 := Lib.hid (Zr.out.drewN k4)
        generalize wr.drewN k4 = w8 at Z8 ⊢
        go_wp2_with fail
        refine ((HCH.out w8 (HT.out.below Z8.out.b)).out).mono ?_
        rintro e w9 ⟨v9, rfl, hO9, hB9⟩
        obtain ⟨p9, c9, rfl, hV9⟩ := Vw.of_own hO9
        have Z9 := Lib.hid (Z8.out.below hB9)
        have V9 := Lib.hid hV9
        clear hO9 hB9 hV9
        go_wp2_with fail
        refine (same_eq p9 p1 m c9 m c1 zs w9 V9.out Z9.out.v1 (by omega) (by omega)).mono ?_
        rintro e w' ⟨rfl, k5, rfl⟩
        go_wp2
        go_ret
        exact ⟨rfl, below_drewN Z9.out.b _⟩
      · have d1 : decide (size < 1) = false := by simp; omega
        have H1 := Lib.hid h1
        clear h1
        go_wp2_with fail
        refine (same_eq p3 p1 m c3 m c1 zs wr Zr.out.v3 Zr.out.v1 (by omega) (by omega)).mono ?_
        rintro e w' ⟨rfl, k4, rfl⟩
        have Z8 := Lib.hid (Zr.out.drewN k4)
        generalize wr.drewN k4 = w8 at Z8 ⊢
        go_wp2_with fail
        refine ((HCH.out w8 (HT.out.below Z8.out.b)).out).mono ?_
        rintro e w9 ⟨v9, rfl, hO9, hB9⟩
        obtain ⟨p9, c9, rfl, hV9⟩ := Vw.of_own hO9
        have Z9 := Lib.hid (Z8.out.below hB9)
        have V9 := Lib.hid hV9
        clear hO9 hB9 hV9
        go_wp2_with fail
        refine (same_eq p9 p1 m c9 m c1 zs w9 V9.out Z9.out.v1 (by omega) (by omega)).mono ?_
        rintro e w' ⟨rfl, k5, rfl⟩
        go_wp2_with fail
        refine ((HBZ.out (w9.drewN k5) Z9.out.v1 (HT.out.below (Z9.out.drewN k5).b)).out).mono ?_
        rintro e w10 ⟨rfl, hb10⟩
        have Z10 := Lib.hid ((Z9.out.drewN k5).below hb10)
        rw [if_neg (by have := H1.out; omega)]
        clear hb10
        go_wp2
        go_ret
        exact ⟨rfl, Z10.out.b⟩
end Go.Proofs.YtmejgkcclgkgjaaDoor
