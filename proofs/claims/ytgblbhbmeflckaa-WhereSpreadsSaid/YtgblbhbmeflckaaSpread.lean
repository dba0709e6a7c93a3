/- where.Spread. -/
import Derived.Test.YtgblbhbmeflckaaDelF
import Derived.Test.YtgblbhbmeflckaaApp
import Derived.Deep.CutBlock
namespace Go.Proofs.Ytgblbhbmeflckaa
open Go.RowKit Go.Lib St Fl
set_option linter.unusedVariables false
set_option linter.unusedSimpArgs false
set_option maxHeartbeats 1000000 in
theorem idxf_0 (B : Nat) (f : Value) (w : World) : Calls Try.prog 40 #[.slice (some ⟨B, 0, none⟩) 0 0, f] w fun e w' => e = .returned (.int .i64 (-1)) ∧ w = w' := by
  go_enter Try.func40, Try.ntmps40
  go_wp2_with fail
  go_loopg [8] 0 (fun g v8 wr => v8 = .int .i64 0 ∧ g = 0 ∧ w = wr)
  case atStart => exact ⟨rfl, rfl, rfl⟩
  case round =>
    obtain ⟨rfl, rfl, rfl⟩ := hrel
    go_wp2_with fail
    go_ret
    exact ⟨rfl, rfl⟩
set_option maxHeartbeats 1000000 in
theorem delf_0 (B : Nat) (f : Value) (w : World) : Calls Try.prog 33 #[.slice (some ⟨B, 0, none⟩) 0 0, f] w fun e w' => e = .returned (.slice (some ⟨B, 0, none⟩) 0 0) ∧ w = w' := by
  go_enter Try.func33, Try.ntmps33
  go_wp2_with fail
  refine (idxf_0 B f w).mono ?_
  rintro _ _ ⟨rfl, rfl⟩
  go_wp2_with fail
  go_ret
  exact ⟨rfl, rfl⟩
/-- the numbers, the nearest first -/
noncomputable def nearN (zr zi : Nat) (re im : Nat → Nat) (n : Nat) : List Nat := (nearL zr zi re im n).map Int.toNat
theorem nearN_len (zr zi : Nat) (re im : Nat → Nat) (n : Nat) : (nearN zr zi re im n).length = n := by unfold nearN; rw [List.length_map, nearL_len]
theorem nearN_lt {zr zi : Nat} {re im : Nat → Nat} {n j : Nat} (h : j ∈ nearN zr zi re im n) : j < n := by
  obtain ⟨x, hx, rfl⟩ := List.mem_map.1 h
  obtain ⟨k, hk, rfl⟩ := (nearL_mem zr zi re im n x).1 hx
  simpa using hk
theorem nearN_at {zr zi : Nat} {re im : Nat → Nat} {n k j : Nat} (h : (nearN zr zi re im n)[k]? = some j) : (nearL zr zi re im n)[k]? = some (j : Int) := by
  unfold nearN at h
  rw [List.getElem?_map] at h
  obtain ⟨x, hx, rfl⟩ := Option.map_eq_some_iff.1 h
  obtain ⟨q, hq, rfl⟩ := (nearL_mem zr zi re im n x).1 (List.mem_of_getElem? hx)
  rw [hx]; simp
theorem RowN.below {w w' : World} {B N : Nat} {l : List Nat} (h : RowN w B l) (hb : Below N w w') (hN : B < N) : RowN w' B l :=
  ⟨Nat.lt_of_lt_of_le h.lt hb.size, fun k j hk => ⟨(hb.cell (p := ⟨B, k, none⟩) hN).trans (h.at' k j hk).1, (hb.frozen (p := ⟨B, k, none⟩) hN).trans (h.at' k j hk).2⟩⟩
theorem keepS_mem {zr zi : Nat} {re im : Nat → Nat} {l : List Nat} {j : Nat} (h : j ∈ keepS zr zi re im l) : j ∈ l ∧ 0 ≤ distI (pl zr) (pl zi) (pl (re j)) (pl (im j)) := by
  unfold keepS at h
  rw [List.mem_filter] at h
  refine ⟨h.1, ?_⟩
  have h2 := h.2
  by_cases hc : distI (pl zr) (pl zi) (pl (re j)) (pl (im j)) < 0
  · rw [decide_eq_true hc] at h2; cases h2
  · omega
structure Cov8 (p : Prop) : Prop where
  out : p
theorem own_lt_of {w : World} {base : Nat} {e : TypeId} {size n : Nat} {v : Value} {xs : List Value} (h : w.ownsRow base e size v n xs) {q : Nat} (hq : v.ownBlock = some q) : base ≤ q ∧ q < w.heap.size := h.lt q hq
theorem pl_some {a b c d : Option Int} (h : 0 ≤ distI a b c d) : c.isSome = true ∧ d.isSome = true := by
  unfold distI at h
  cases a <;> cases b <;> cases c <;> cases d <;> simp_all
theorem dA_pos {zr zi : Nat} {re im : Nat → Nat} {i j : Nat} (h1 : 0 ≤ distI (pl zr) (pl zi) (pl (re i)) (pl (im i))) (h2 : 0 ≤ distI (pl zr) (pl zi) (pl (re j)) (pl (im j))) : 0 ≤ dA re im i j := by
  have a := pl_some h1
  have b := pl_some h2
  unfold dA
  obtain ⟨x, hx⟩ := Option.isSome_iff_exists.1 a.1
  obtain ⟨y, hy⟩ := Option.isSome_iff_exists.1 a.2
  obtain ⟨u, hu⟩ := Option.isSome_iff_exists.1 b.1
  obtain ⟨v, hv⟩ := Option.isSome_iff_exists.1 b.2
  rw [hx, hy, hu, hv]
  unfold distI
  have h3 : 0 ≤ (x - u) * (x - u) := by rcases Int.le_total 0 (x - u) with h | h; exact Int.mul_nonneg h h; exact Int.mul_nonneg_of_nonpos_of_nonpos h h
  have h4 : 0 ≤ (y - v) * (y - v) := by rcases Int.le_total 0 (y - v) with h | h; exact Int.mul_nonneg h h; exact Int.mul_nonneg_of_nonpos_of_nonpos h h
  dsimp only
  omega
/-- what Spread answers -/
noncomputable def spreadL (zr zi : Nat) (re im : Nat → Nat) (n : Nat) (k : Int) : List Nat := spr (dA re im) k (keepS zr zi re im (nearN zr zi re im n)).length [] (keepS zr zi re im (nearN zr zi re im n))
def natI (l : List Nat) : List Int := l.map Int.ofNat
set_option maxHeartbeats 8000000 in
set_option maxRecDepth 20000 in
theorem spread_c (zr zi : Nat) (p : Option Addr) (lb n cap : Nat) (re im : Nat → Nat) (k : Int) (w : World) (hp : 0 < n → p = some ⟨lb, 0, none⟩) (hlb : 0 < n → lb < w.heap.size) (hl : ∀ i, i < n → w.cell? ⟨lb, i, none⟩ = some (.complex .f64 (re i) (im i))) (hsz : n ≤ 8796093022208) :
    Calls Try.prog 24 #[.complex .f64 zr zi, .slice p n cap, .int .i64 k] w fun e w' => ∃ v, e = .returned v ∧ w'.ownsRow w.heap.size 3 1 v (natI (spreadL zr zi re im n k)).length (ints (natI (spreadL zr zi re im n k))) ∧ Below w.heap.size w w' := by
  have HP := Lib.hid hp
  have HLB := Lib.hid hlb
  have HL := Lib.hid hl
  have HSZ := Lib.hid hsz
  clear hp hlb hl hsz
  have hA := Blk.new w [.complex .f64 zr zi] 26
  have hB := Blk.new (w.alloc (.cells #[.complex .f64 zr zi] 26)) [.slice p n cap] 38
  have hC := (hA.alloc (.cells #[.slice p n cap] 38))
  have hb0 := Lib.hid (((Below.refl w.heap.size w).alloc (Nat.le_refl _) (.cells #[.complex .f64 zr zi] 26)).alloc (by simp) (.cells #[.slice p n cap] 38))
  have hsz2 : Hid (((w.alloc (.cells #[.complex .f64 zr zi] 26)).alloc (.cells #[.slice p n cap] 38)).heap.size = w.heap.size + 1 + 1) := Lib.hid (by simp)
  have HB := Lib.hid hB
  have HC := Lib.hid hC
  clear hA hB hC
  go_enter Try.func24, Try.ntmps24
  go_upto_region 1 with (fail)
  have HB' : Hid (Blk ((w.alloc (.cells #[.complex .f64 zr zi] 26)).alloc (.cells #[.slice p n cap] 38)) (w.heap.size + 1) [.slice p n cap] 38) := Lib.hid (by simpa using HB.out)
  clear HB
  generalize ((w.alloc (.cells #[.complex .f64 zr zi] 26)).alloc (.cells #[.slice p n cap] 38)) = w2 at hb0 hsz2 HB' HC ⊢
  have z0 : w2.cell? ⟨w.heap.size, 0, none⟩ = some (.complex .f64 zr zi) := HC.out.cell 0
  have z1 : w2.cell? ⟨w.heap.size + 1, 0, none⟩ = some (.slice p n cap) := HB'.out.cell 0
  have hnc := near_c zr zi p lb n cap re im w2 HP.out (fun h => Nat.lt_of_lt_of_le (HLB.out h) hb0.out.size) (fun i hi => (hb0.out.cell (p := ⟨lb, i, none⟩) (HLB.out (by omega))).trans (HL.out i hi)) (by have := HSZ.out; omega)
  have HNC := Lib.hid hnc
  clear hnc
  go_wp2_with fail
  refine HNC.out.mono ?_
  rintro _ w3 ⟨B, rfl, hb3, hB1, hB2, hcell, hfz⟩
  clear HNC
  have HR3 : Hid (RowN w3 B (nearN zr zi re im n)) := Lib.hid ⟨hB2, fun q j hq => ⟨hcell q _ (nearN_at hq), hfz q (by have := (List.getElem?_eq_some_iff.1 hq).1; rwa [nearN_len] at this)⟩⟩
  have HB3 := Lib.hid (hb0.out.trans (hb3.mono hb0.out.size))
  have HG3 : Hid (w.heap.size + 1 < B) := Lib.hid (by have := hsz2.out; omega)
  have HC3 : Hid (w3.cell? ⟨w.heap.size, 0, none⟩ = some (.complex .f64 zr zi)) := Lib.hid ((hb3.cell (p := ⟨w.heap.size, 0, none⟩) HC.out.lt).trans z0)
  have HD3 : Hid (w3.cell? ⟨w.heap.size + 1, 0, none⟩ = some (.slice p n cap)) := Lib.hid ((hb3.cell (p := ⟨w.heap.size + 1, 0, none⟩) HB'.out.lt).trans z1)
  have HL3 : Hid (∀ i, i < n → lb < w.heap.size ∧ w3.cell? ⟨lb, i, none⟩ = some (.complex .f64 (re i) (im i))) := Lib.hid fun i hi => ⟨HLB.out (by omega), (HB3.out.cell (p := ⟨lb, i, none⟩) (HLB.out (by omega))).trans (HL.out i hi)⟩
  have HN0 : Hid (∀ j ∈ keepS zr zi re im (nearN zr zi re im n), j < n) := Lib.hid fun j hj => nearN_lt (keepS_mem hj).1
  have HNL : Hid ((keepS zr zi re im (nearN zr zi re im n)).length ≤ n) := Lib.hid (by
    have := List.length_filter_le (fun j => !decide (distI (pl zr) (pl zi) (pl (re j)) (pl (im j)) < 0)) (nearN zr zi re im n)
    rw [nearN_len] at this
    exact this)
  have HDEL : Hid (Calls Try.prog 33 #[.slice (some ⟨B, 0, none⟩) n n, .func (.func 34) #[] #[.pointer (some ⟨w.heap.size, 0, none⟩), .pointer (some ⟨w.heap.size + 1, 0, none⟩)]] w3 fun e w' => e = .returned (.slice (some ⟨B, 0, none⟩) (keepS zr zi re im (nearN zr zi re im n)).length n) ∧ RowN w' B (keepS zr zi re im (nearN zr zi re im n)) ∧ Fr w3 w' (fun k => k = B)) := Lib.hid (by
    by_cases h0 : n = 0
    · subst h0
      have hnil : nearN zr zi re im 0 = [] := List.eq_nil_of_length_eq_zero (nearN_len _ _ _ _ _)
      rw [hnil]
      refine (delf_0 B _ w3).mono ?_
      rintro _ _ ⟨rfl, rfl⟩
      exact ⟨rfl, ⟨HR3.out.lt, fun q j h => by cases h⟩, Fr.refl _ _⟩
    · obtain rfl := HP.out (by omega)
      exact delf_n zr zi lb n cap re im (by omega) B _ (fun j hj => nearN_lt hj) n n (nearN_len _ _ _ _ _) (Nat.le_refl _) (by have := HSZ.out; omega) w.heap.size (w.heap.size + 1) w3 HR3.out ⟨by have := HG3.out; omega, by have := HG3.out; omega, HC3.out⟩ ⟨by have := HG3.out; omega, by have := HG3.out; omega, HD3.out⟩ ⟨by have := HB3.out.size; have := (HL3.out 0 (by omega)).1; omega, by have := HG3.out; have := (HL3.out 0 (by omega)).1; omega, fun i hi => (HL3.out i hi).2⟩)
  have HKD : Hid (∀ i ∈ keepS zr zi re im (nearN zr zi re im n), ∀ j ∈ keepS zr zi re im (nearN zr zi re im n), 0 ≤ dA re im i j ∧ dA re im i j < 1099511627776) := Lib.hid fun i hi j hj => ⟨dA_pos (keepS_mem hi).2 (keepS_mem hj).2, by have := (dA_bd re im i j).2; omega⟩
  have HRS : Hid (spr (dA re im) k (keepS zr zi re im (nearN zr zi re im n)).length [] (keepS zr zi re im (nearN zr zi re im n)) = spreadL zr zi re im n k) := Lib.hid rfl
  obtain ⟨R, hRe⟩ : ∃ R, R = spreadL zr zi re im n k := ⟨_, rfl⟩
  rw [← hRe] at HRS
  have HRE := Lib.hid hRe
  clear hRe
  generalize keepS zr zi re im (nearN zr zi re im n) = near0 at HN0 HNL HDEL HKD HRS
  clear hb3 hB1 hcell hfz z0 z1 HR3 hb0 HB' HC hsz2
  go_wp2_with fail
  refine HDEL.out.mono ?_
  rintro _ w4 ⟨rfl, hr4, hf4⟩
  have HR4 := Lib.hid hr4
  have HB4 : Hid (Below w.heap.size w w4) := Lib.hid (HB3.out.trans (hf4.below (fun q hq e => by subst e; have := HG3.out; omega) HB3.out.size))
  have HL4 : Hid (∀ i, i < n → lb < w.heap.size ∧ w4.cell? ⟨lb, i, none⟩ = some (.complex .f64 (re i) (im i))) := Lib.hid fun i hi => ⟨(HL3.out i hi).1, (hf4.cell (by have := (HL3.out i hi).1; have := HB3.out.size; show lb < _; omega) (by have := (HL3.out i hi).1; have := HG3.out; show ¬ lb = B; omega)).trans (HL3.out i hi).2⟩
  have HD4 : Hid (w4.cell? ⟨w.heap.size + 1, 0, none⟩ = some (.slice p n cap)) := Lib.hid ((hf4.cell (by have := HG3.out; show w.heap.size + 1 < _; omega) (by have := HG3.out; show ¬ w.heap.size + 1 = B; omega)).trans HD3.out)
  clear hr4 hf4 HDEL HC3 HD3 HL3 HB3 hB2
  have HLX : Hid (∀ X, Below w.heap.size w X → ∀ i, i < n → X.cell? ⟨lb, i, none⟩ = some (.complex .f64 (re i) (im i))) := Lib.hid fun X h i hi => (h.cell (p := ⟨lb, i, none⟩) (HLB.out (by omega))).trans (HL.out i hi)
  have HBS : Hid (B < w4.heap.size ∧ w.heap.size + 1 < w4.heap.size ∧ w.heap.size ≤ w4.heap.size) := Lib.hid ⟨HR4.out.lt, by have := HR4.out.lt; have := HG3.out; omega, HB4.out.size⟩
  clear HL4
  obtain ⟨Bs, hBs⟩ : ∃ Bs, Bs = w4.heap.size := ⟨_, rfl⟩
  have HBE := Lib.hid hBs
  rw [← hBs] at HBS
  clear hBs
  go_wp2_with fail
  go_loopg [7, 8] near0.length (fun g nv ov wr => ∃ (near out : List Nat) (m lo : Nat), nv = .slice (some ⟨B, 0, none⟩) m n ∧ m = g ∧ near.length = m ∧ Hid (out.length = lo) ∧ Hid (spr (dA re im) k near.length out near = R) ∧ Hid (lo + m ≤ n) ∧ Hid (RowN wr B near) ∧ Hid (wr.ownsRow Bs 3 1 ov lo (ints (natI out))) ∧ Hid (Below w.heap.size w wr) ∧ Hid (Bs ≤ wr.heap.size) ∧ Hid (wr.cell? ⟨w.heap.size + 1, 0, none⟩ = some (.slice p n cap)) ∧ Hid ((∀ j ∈ near, j ∈ near0) ∧ (∀ j ∈ out, j ∈ near0)))
  case atStart => exact ⟨near0, [], near0.length, 0, rfl, rfl, rfl, Lib.hid rfl, HRS, Lib.hid (by have := HNL.out; omega), HR4, Lib.hid (World.ownsRow_nil _ _ _ _), HB4, Lib.hid (by rw [HBE.out]; exact Nat.le_refl _), HD4, Lib.hid ⟨fun _ h => h, fun _ h => by cases h⟩⟩
  case round =>
    obtain ⟨near, out, m, lo, rfl, hmg, hnm, HLO, HSP, HSUM, HRN, HO, HBW, HSZW, HGB, HMEM⟩ := hrel
    have HMG := Lib.hid hmg
    have HNM := Lib.hid hnm
    clear hmg hnm HR4 HB4 HD4 HRS
    obtain ⟨qo, co, rfl⟩ := own_slice HO.out
    by_cases hgo : (lo : Int) < k ∧ 0 < m
    · have t1 : decide ((lo : Int) < k) = true := decide_eq_true hgo.1
      have t2 : decide ((0 : Int) < (m : Int)) = true := decide_eq_true (by omega)
      have t2n : decide (0 < m) = true := decide_eq_true hgo.2
      have HGO := Lib.hid hgo
      have hn0 : 0 < n := by have := HSUM.out; omega
      obtain rfl := HP.out hn0
      have hne : near ≠ [] := fun e => by rw [e] at HNM; have := HNM.out; simp at this; omega
      obtain ⟨kk, ii, cc, dd, hii, hbk, _, _⟩ := pick_same (D := dA re im) (out := out) (near := near) (fun i hi j hj => HKD.out i (HMEM.out.1 i hi) j (HMEM.out.2 j hj)) hne
      have hst := spr_step (D := dA re im) (n := k) (out := out) (near := near) (by have := HLO.out; omega) hne hii hbk
      have HST := Lib.hid hst
      have HII := Lib.hid hii
      have HBK := Lib.hid hbk
      have HNA : Hid (NatsAt wr qo lo out) := Lib.hid ⟨HLO.out, fun q j hq => by
        have hql := (List.getElem?_eq_some_iff.1 hq).1
        obtain ⟨g, cap', e, _, hlt, hC⟩ := own_some HO.out (by have := HLO.out; omega)
        cases e
        exact ⟨g, rfl, hlt, (hC.get (j := q) (by unfold ints natI; rw [List.getElem?_map, List.getElem?_map, hq]; rfl)).1⟩⟩
      clear hgo hn0 hne hii hbk hst
      go_wp2_with fail
      go_loopg [9, 10, 31] m (fun g bv mv iv wx => ∃ q : Nat, iv = .int .i64 (q : Int) ∧ q + g = m ∧ bv = .int .i64 (bestK ((near.take q).map (lst (dA re im) out))).1 ∧ mv = .int .i64 (bestK ((near.take q).map (lst (dA re im) out))).2 ∧ ∃ d, wx = wr.drewN d)
      case atStart => exact ⟨0, rfl, by omega, rfl, rfl, 0, rfl⟩
      case round =>
        rename World => wx
        obtain ⟨q, rfl, hq, rfl, rfl, d0, hwx⟩ := hrel
        have HQ := Lib.hid hq
        have HWX : Hid (∃ d, wx = wr.drewN d) := Lib.hid ⟨d0, hwx⟩
        have HBX : Hid (Below wr.heap.size wr wx) := Lib.hid (by rw [hwx]; exact below_drewN (Below.refl _ _) _)
        by_cases hql : q < m
        · have s1 : decide ((q : Int) < (m : Int)) = true := decide_eq_true (by omega)
          have s1n : decide (q < m) = true := decide_eq_true hql
          have HQL := Lib.hid hql
          obtain ⟨j, hj⟩ : ∃ j, near[q]? = some j := ⟨near[q]'(by rw [HNM.out]; exact hql), List.getElem?_eq_getElem _⟩
          have hjn := HN0.out j (HMEM.out.1 j (List.mem_of_getElem? hj))
          have k0 : wx.cell? ⟨B, q, none⟩ = some (.int .i64 (j : Int)) := (HBX.out.cell (p := ⟨B, q, none⟩) HRN.out.lt).trans (HRN.out.at' q j hj).1
          have k1 : wx.cell? ⟨w.heap.size + 1, 0, none⟩ = some (.slice (some ⟨lb, 0, none⟩) n cap) := (HBX.out.cell (p := ⟨w.heap.size + 1, 0, none⟩) (by have := HBS.out; have := HSZW.out; show w.heap.size + 1 < _; omega)).trans HGB.out
          have hle := least_c lb n cap re im j hjn qo lo co out wx (fun i hi => by rw [hwx]; exact HLX.out wr HBW.out i hi) (by have := HSZ.out; omega) (HNA.out.below HBX.out (Nat.le_refl _)) (fun i hi => HN0.out i (HMEM.out.2 i hi)) (by have := HSUM.out; have := HSZ.out; omega)
          have hsn := bestK_snoc ((near.take q).map (lst (dA re im) out)) (lst (dA re im) out j)
          have htk : (near.take q).map (lst (dA re im) out) ++ [lst (dA re im) out j] = (near.take (q + 1)).map (lst (dA re im) out) := by rw [List.take_add_one, hj, List.map_append]; rfl
          have hlq : ((near.take q).map (lst (dA re im) out)).length = q := by rw [List.length_map, List.length_take, HNM.out]; omega
          rw [htk, hlq] at hsn
          change Calls Try.prog 35 _ wx fun e w' => e = .returned (.int .i64 (lst (dA re im) out j)) ∧ ∃ q, w' = wx.drewN q at hle
          have HLE := Lib.hid hle
          generalize lst (dA re im) out j = dv at HLE hsn
          generalize bestK ((near.take q).map (lst (dA re im) out)) = bl at hsn
          obtain ⟨bb, ll⟩ := bl
          dsimp only at hsn ⊢
          have ia : ((q : Int)).toNat = q := by omega
          have ip : (0 : Int) ≤ (q : Int) := by omega
          have iz : (q : Int) < (m : Int) := by omega
          have kw : q + 1 < 8796093022212 := by have := HSUM.out; have := HSZ.out; omega
          clear hj hjn hle htk hlq hql hq hwx
          by_cases hc : ll < dv
          · have u1 : decide (ll < dv) = true := decide_eq_true hc
            rw [if_pos hc] at hsn
            have HSN := Lib.hid hsn
            clear hc hsn
            go_wp2_with fail
            refine HLE.out.mono ?_
            rintro _ wy ⟨rfl, hy⟩
            have HY := Lib.hid hy
            clear hy HLE
            go_wp2_with fail
            clear kw
            go_roundg (m - (q + 1))
            case measure => have := HQ.out; have := HQL.out; omega
            case rel => exact ⟨q + 1, by first | rfl | go_num, by have := HQ.out; have := HQL.out; omega, by rw [HSN.out], by rw [HSN.out], by obtain ⟨a, ha⟩ := HY.out; rw [ha]; exact drewN_more HWX.out a⟩
          · have u1 : decide (ll < dv) = false := decide_eq_false hc
            rw [if_neg hc] at hsn
            have HSN := Lib.hid hsn
            clear hc hsn
            go_wp2_with fail
            refine HLE.out.mono ?_
            rintro _ wy ⟨rfl, hy⟩
            have HY := Lib.hid hy
            clear hy HLE
            go_wp2_with fail
            clear kw
            go_roundg (m - (q + 1))
            case measure => have := HQ.out; have := HQL.out; omega
            case rel => exact ⟨q + 1, by first | rfl | go_num, by have := HQ.out; have := HQL.out; omega, by rw [HSN.out], by rw [HSN.out], by obtain ⟨a, ha⟩ := HY.out; rw [ha]; exact drewN_more HWX.out a⟩
        · have s1 : decide ((q : Int) < (m : Int)) = false := decide_eq_false (by omega)
          have s1n : decide (q < m) = false := decide_eq_false hql
          have htk : near.take q = near := List.take_of_length_le (by rw [HNM.out]; omega)
          rw [htk, HBK.out]
          dsimp only
          have hkl := (List.getElem?_eq_some_iff.1 HII.out).1
          rw [HNM.out] at hkl
          have HKL := Lib.hid hkl
          have k0 : wx.cell? ⟨B, kk, none⟩ = some (.int .i64 (ii : Int)) := (HBX.out.cell (p := ⟨B, kk, none⟩) HRN.out.lt).trans (HRN.out.at' kk ii HII.out).1
          have HOX := Lib.hid (own_below HO.out HBX.out (Nat.le_refl _))
          have HSX : Hid (Bs ≤ wx.heap.size) := Lib.hid (Nat.le_trans HSZW.out HBX.out.size)
          have ia : ((kk : Int)).toNat = kk := by omega
          have ip : (0 : Int) ≤ (kk : Int) := by omega
          have iz : (kk : Int) < (m : Int) := by omega
          have kw : kk + 1 < 8796093022212 := by have := HSUM.out; have := HSZ.out; omega
          have HWB := Lib.hid (below_then HBW.out HBW.out.size HBX.out)
          have HRX := Lib.hid (HRN.out.below HBX.out HRN.out.lt)
          have HGX : Hid (wx.cell? ⟨w.heap.size + 1, 0, none⟩ = some (.slice (some ⟨lb, 0, none⟩) n cap)) := Lib.hid ((HBX.out.cell (p := ⟨w.heap.size + 1, 0, none⟩) (by have := HBS.out; have := HSZW.out; show w.heap.size + 1 < _; omega)).trans HGB.out)
          clear htk hkl hql hq hwx HO HNA HBK
          go_wp2_with (at_builtin
                       refine Cov8.out ?_)
          refine Cov8.mk ?_
          refine wpList_appw rfl _ _ 40 rfl Bs 3 _ 1 8 Try.underlying40 int_info rfl (by decide) _ lo _ rfl HOX.out [.int .i64 (ii : Int)] _ 1 1 rfl rfl rfl (by have := HSUM.out; have := HSZ.out; have := HGO.out; unfold maxLen; omega) (by have := HSUM.out; have := HSZ.out; have := HGO.out; omega) HSX.out ?_
          intro v' w9 hO hG
          have HB9 := Lib.hid (below_row HOX.out hG.out (Below.refl Bs wx) (Nat.le_refl _) HSX.out)
          have HR9 := Lib.hid (HRX.out.below HB9.out HBS.out.1)
          have HG9 : Hid (w9.cell? ⟨w.heap.size + 1, 0, none⟩ = some (.slice (some ⟨lb, 0, none⟩) n cap)) := Lib.hid ((HB9.out.cell (p := ⟨w.heap.size + 1, 0, none⟩) HBS.out.2.1).trans HGX.out)
          have HW9 := Lib.hid (HWB.out.trans (HB9.out.mono HBS.out.2.2))
          have HDL := Lib.hid (delete_n B near kk m n HNM.out HKL.out (by have := HSUM.out; omega) (by have := HSZ.out; omega) w9 HR9.out)
          clear hG k0
          go_wp2_with fail
          refine HDL.out.mono ?_
          rintro _ w10 ⟨rfl, hr10, hf10⟩
          have HR10 := Lib.hid hr10
          have HO10 := Lib.hid (own_fr hO.out hf10 (fun z hz e => by subst e; have h1 := (own_lt_of hO.out hz).1; have := HBS.out.1; omega))
          have HG10 : Hid (w10.cell? ⟨w.heap.size + 1, 0, none⟩ = some (.slice (some ⟨lb, 0, none⟩) n cap)) := Lib.hid ((hf10.cell (by have := HBS.out.2.1; have := HSX.out; have := HB9.out.size; show w.heap.size + 1 < _; omega) (by have := HG3.out; show ¬ w.heap.size + 1 = B; omega)).trans HG9.out)
          have HW10 : Hid (Below w.heap.size w w10) := Lib.hid (HW9.out.trans (hf10.below (fun z _ e => by subst e; have := HG3.out; omega) HW9.out.size))
          have HS10 : Hid (Bs ≤ w10.heap.size) := Lib.hid (Nat.le_trans (Nat.le_trans HSX.out HB9.out.size) hf10.size)
          clear hr10 hf10 HDL hO
          go_wp2_with fail
          clear kw
          go_roundg (m - 1)
          case measure => have := HMG.out; have := HKL.out; omega
          case rel => exact ⟨near.eraseIdx kk, out ++ [ii], m - 1, lo + 1, rfl, rfl, by rw [List.length_eraseIdx_of_lt (by rw [HNM.out]; exact HKL.out), HNM.out], Lib.hid (by rw [List.length_append, HLO.out]; rfl), Lib.hid (HST.out ▸ HSP.out), Lib.hid (by have := HSUM.out; have := HKL.out; omega), HR10, Lib.hid (by have := HO10.out; unfold natI ints at this ⊢; rw [List.map_append, List.map_append]; exact this), HW10, HS10, HG10, Lib.hid ⟨fun x hx => HMEM.out.1 x (List.mem_of_mem_eraseIdx hx), fun x hx => by
            rcases List.mem_append.1 hx with h | h
            · exact HMEM.out.2 x h
            · rw [List.mem_singleton.1 h]; exact HMEM.out.1 ii (List.mem_of_getElem? HII.out)⟩⟩
    · have hR : out = R := by rw [← HSP.out]; exact (spr_stop (by rw [HLO.out]; rintro ⟨h1, h2⟩; exact hgo ⟨h1, by have := List.length_pos_iff.2 h2; have := HNM.out; omega⟩)).symm
      have HRR := Lib.hid hR
      have HOF : Hid (wr.ownsRow w.heap.size 3 1 (.slice qo lo co) (natI R).length (ints (natI R))) := Lib.hid (by
        rw [← hR]
        have h1 : (natI out).length = lo := by unfold natI; rw [List.length_map]; exact HLO.out
        rw [h1]
        exact own_mono HO.out HBS.out.2.2)
      by_cases h1 : (lo : Int) < k
      · have t1 : decide ((lo : Int) < k) = true := decide_eq_true h1
        have hm0 : m = 0 := by
          rcases Nat.eq_zero_or_pos m with h | h
          · exact h
          · exact absurd ⟨h1, h⟩ hgo
        have t2 : decide ((0 : Int) < (m : Int)) = false := decide_eq_false (by omega)
        have t2n : decide (0 < m) = false := decide_eq_false (by omega)
        clear hgo hR h1 hm0
        go_wp2_with fail
        exact bodyPost_ret (results_tmp (by rfl) _ _ _) (by rfl) ⟨.slice qo lo co, by rfl, by rw [← HRE.out]; exact HOF.out, HBW.out⟩
      · have t1 : decide ((lo : Int) < k) = false := decide_eq_false h1
        clear hgo hR h1
        go_wp2_with fail
        exact bodyPost_ret (results_tmp (by rfl) _ _ _) (by rfl) ⟨.slice qo lo co, by rfl, by rw [← HRE.out]; exact HOF.out, HBW.out⟩
end Go.Proofs.Ytgblbhbmeflckaa
