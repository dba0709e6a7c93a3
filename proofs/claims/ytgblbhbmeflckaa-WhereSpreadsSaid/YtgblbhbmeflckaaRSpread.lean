/- mahoutref03.Spread. -/
import Derived.Test.YtgblbhbmeflckaaPSpr2
namespace Go.Proofs.Ytgblbhbmeflckaa
open Go.RowKit Go.Lib St Fl
set_option linter.unusedVariables false
set_option linter.unusedSimpArgs false
theorem spreadL_none {zr zi : Nat} (re im : Nat → Nat) (n : Nat) (k : Int) (h : ¬ ((pl zr).isSome = true ∧ (pl zi).isSome = true)) : spreadL zr zi re im n k = [] := by
  have hnil : keepS zr zi re im (nearN zr zi re im n) = [] := by
    refine List.eq_nil_iff_forall_not_mem.2 fun j hj => ?_
    have h2 := (keepS_mem hj).2
    apply h
    unfold distI at h2
    cases h3 : pl zr <;> cases h4 : pl zi <;> rw [h3, h4] at h2 <;> simp_all
  unfold spreadL
  rw [hnil]
  rfl
theorem drewN_more2 {w wr : World} (h : ∃ q, wr = w.drewN q) (a b : Nat) : ∃ q, (wr.drewN a).drewN b = w.drewN q := by
  obtain ⟨q, hq⟩ := drewN_more h a
  rw [hq]
  exact drewN_more ⟨q, rfl⟩ b
def tkF (tk : Nat → Bool) (n : Nat) : List Value := (List.range n).map fun i => .bool (tk i)
theorem tkF_get (tk : Nat → Bool) (n i : Nat) (hi : i < n) : (tkF tk n)[i]? = some (.bool (tk i)) := by
  unfold tkF
  rw [List.getElem?_map, List.getElem?_range hi]
  rfl
theorem tkF_none (n : Nat) : tkF (fun _ => false) n = List.replicate n (.bool false) := by
  unfold tkF
  apply List.ext_getElem
  · simp
  · intro i h1 h2; simp
theorem tkF_set (tk : Nat → Bool) (n i : Nat) (hi : i < n) : (tkF tk n).set i (.bool true) = tkF (fun j => if j = i then true else tk j) n := by
  apply List.ext_getElem?
  intro j
  by_cases hj : j < n
  · rw [tkF_get _ _ _ hj, List.getElem?_set]
    by_cases e : i = j
    · subst e
      rw [if_pos rfl, if_pos (by unfold tkF; simpa using hi)]
      simp
    · rw [if_neg e, tkF_get _ _ _ hj, if_neg (fun h => e h.symm)]
  · rw [List.getElem?_eq_none (by unfold tkF; simp; omega), List.getElem?_eq_none (by unfold tkF; simp; omega)]
set_option maxHeartbeats 8000000 in
set_option maxRecDepth 20000 in
theorem rspread_c (zr zi : Nat) (p : Option Addr) (lb n cap : Nat) (re im : Nat → Nat) (k : Int) (w : World) (hp : 0 < n → p = some ⟨lb, 0, none⟩) (hlb : 0 < n → lb < w.heap.size) (hl : ∀ i, i < n → w.cell? ⟨lb, i, none⟩ = some (.complex .f64 (re i) (im i))) (hsz : n < 8796093022208) :
    Calls Try.prog 23 #[.complex .f64 zr zi, .slice p n cap, .int .i64 k] w fun e w' => ∃ v, e = .returned v ∧ w'.ownsRow w.heap.size 3 1 v (natI (spreadL zr zi re im n k)).length (ints (natI (spreadL zr zi re im n k))) ∧ Below w.heap.size w w' := by
  have hm1 := fun w => run_make1 (P := Try.prog) 59 4 (.bool false) 1 Try.underlying59 (by kernel_rfl) rfl n (by omega) (by omega) w
  have HP := Lib.hid hp
  have HLB := Lib.hid hlb
  have HL := Lib.hid hl
  have HSZ := Lib.hid hsz
  have HNC := Lib.hid (rnear_c zr zi p lb n cap re im w hp hlb hl hsz)
  have hpl := place_any zr zi w
  clear hp hlb hl hsz
  by_cases hok : (pl zr).isSome = true ∧ (pl zi).isSome = true
  · obtain ⟨x, hx⟩ := Option.isSome_iff_exists.1 hok.1
    obtain ⟨y, hy⟩ := Option.isSome_iff_exists.1 hok.2
    have HPL : Hid (Calls Try.prog 28 #[.complex .f64 zr zi] w fun e w' => e = .returned (.tuple #[.int .i64 x, .int .i64 y, .bool true]) ∧ w = w') := Lib.hid (by rw [hx, hy] at hpl; exact hpl)
    clear hpl hok hx hy
    obtain ⟨R, hRe⟩ : ∃ R, R = spreadL zr zi re im n k := ⟨_, rfl⟩
    have HRS : Hid (spr (dA re im) k (leftS zr zi re im (fun _ => false) (nearN zr zi re im n)).length [] (leftS zr zi re im (fun _ => false) (nearN zr zi re im n)) = R) := Lib.hid (by rw [hRe]; rfl)
    have HRE := Lib.hid hRe
    have HLN : Hid ((nearN zr zi re im n).length = n) := Lib.hid (nearN_len _ _ _ _ _)
    have HND := Lib.hid (nearN_nodup zr zi re im n)
    have HLT : Hid (∀ j ∈ nearN zr zi re im n, j < n) := Lib.hid fun j hj => nearN_lt hj
    have HNN : Hid (∀ (q j : Nat), (nearN zr zi re im n)[q]? = some j → (nearL zr zi re im n)[q]? = some (j : Int)) := Lib.hid fun q j h => nearN_at h
    clear hRe
    generalize nearN zr zi re im n = L at HRS HLN HND HLT HNN
    go_enter Try.func23, Try.ntmps23
    go_wp2_with fail
    refine HPL.out.mono ?_
    rintro _ _ ⟨rfl, rfl⟩
    go_wp2_with fail
    refine HNC.out.mono ?_
    rintro _ w1 ⟨v1, rfl, hb1, ho1⟩
    obtain ⟨A1, c1, rfl⟩ := own_slice ho1
    have HO1 := Lib.hid ho1
    have HB1 := Lib.hid hb1
    have M1 := Lib.hid (Blk.make w1 n (.bool false) 4)
    have MB := Lib.hid ((Below.refl w1.heap.size w1).alloc (Nat.le_refl _) (.cells (rep n (.bool false)) 4))
    rw [← tkF_none] at M1
    clear ho1 hb1 HNC HPL
    go_upto_block 0 with (fail)
    have HG : Hid (∃ gl, ∀ (q j : Nat), L[q]? = some j → A1 = some ⟨gl, 0, none⟩ ∧ gl < w1.heap.size ∧ w1.cell? ⟨gl, q, none⟩ = some (.int .i64 (j : Int))) := Lib.hid (by
      by_cases h0 : 0 < n
      · obtain ⟨gl, cap', e, _, hlt, hC⟩ := own_some HO1.out h0
        cases e
        exact ⟨gl, fun q j hq => ⟨rfl, hlt, (hC.get (j := q) (by unfold ints; rw [List.getElem?_map, HNN.out q j hq]; rfl)).1⟩⟩
      · exact ⟨0, fun q j hq => by have := (List.getElem?_eq_some_iff.1 hq).1; rw [HLN.out] at this; omega⟩)
    obtain ⟨gl, hgl⟩ := HG.out
    have HGL := Lib.hid hgl
    clear hgl HG HO1 HNN hm1
    obtain ⟨qt, hqt⟩ : ∃ qt, qt = w1.heap.size := ⟨_, rfl⟩
    have HQT := Lib.hid hqt
    rw [← hqt] at M1 ⊢
    have HBW0 := Lib.hid (HB1.out.trans (MB.out.mono HB1.out.size))
    have HLC0 : Hid (∀ (q j : Nat), L[q]? = some j → A1 = some ⟨gl, 0, none⟩ ∧ gl < qt ∧ (w1.alloc (.cells (rep n (.bool false)) 4)).cell? ⟨gl, q, none⟩ = some (.int .i64 (j : Int))) := Lib.hid fun q j hq => by
      obtain ⟨h1, h2, h3⟩ := HGL.out q j hq
      exact ⟨h1, by rw [hqt]; exact h2, (MB.out.cell (p := ⟨gl, q, none⟩) h2).trans h3⟩
    have HS0 : Hid (qt + 1 ≤ (w1.alloc (.cells (rep n (.bool false)) 4)).heap.size) := Lib.hid (by rw [hqt]; simp)
    have HQW : Hid (w.heap.size ≤ qt) := Lib.hid (by rw [hqt]; exact HB1.out.size)
    have HLX : Hid (∀ X, Below w.heap.size w X → ∀ i, i < n → X.cell? ⟨lb, i, none⟩ = some (.complex .f64 (re i) (im i))) := Lib.hid fun X h i hi => (h.cell (p := ⟨lb, i, none⟩) (HLB.out (by omega))).trans (HL.out i hi)
    have HKD : Hid (∀ i ∈ keepS zr zi re im L, ∀ j ∈ keepS zr zi re im L, 0 ≤ dA re im i j ∧ dA re im i j < 1099511627776) := Lib.hid fun i hi j hj => ⟨dA_pos (keepS_mem hi).2 (keepS_mem hj).2, by have := (dA_bd re im i j).2; omega⟩
    have HKL : Hid ((leftS zr zi re im (fun _ => false) L).length ≤ n) := Lib.hid (by
      have := List.length_filter_le (fun j => !false && !decide (distI (pl zr) (pl zi) (pl (re j)) (pl (im j)) < 0)) L
      rw [HLN.out] at this
      exact this)
    clear HGL HB1 MB hqt HQT
    generalize w1.alloc (.cells (rep n (.bool false)) 4) = w2 at M1 HBW0 HLC0 HS0 ⊢
    go_wp2_with fail
    go_loopg [10] (leftS zr zi re im (fun _ => false) L).length (fun g ov wr => ∃ (tk : Nat → Bool) (out : List Nat) (lo : Nat), (leftS zr zi re im tk L).length = g ∧ Hid (out.length = lo) ∧ Hid (spr (dA re im) k (leftS zr zi re im tk L).length out (leftS zr zi re im tk L) = R) ∧ Hid (lo + (leftS zr zi re im tk L).length ≤ n) ∧ Hid (wr.ownsRow (qt + 1) 3 1 ov lo (ints (natI out))) ∧ Hid (Blk wr qt (tkF tk n) 4) ∧ Hid (Below w.heap.size w wr) ∧ Hid (qt + 1 ≤ wr.heap.size) ∧ Hid (∀ (q j : Nat), L[q]? = some j → A1 = some ⟨gl, 0, none⟩ ∧ gl < qt ∧ wr.cell? ⟨gl, q, none⟩ = some (.int .i64 (j : Int))) ∧ Hid (∀ j ∈ out, j ∈ keepS zr zi re im L))
    case atStart => exact ⟨fun _ => false, [], 0, rfl, Lib.hid rfl, HRS, Lib.hid (by have := HKL.out; omega), Lib.hid (World.ownsRow_nil _ _ _ _), M1, HBW0, HS0, HLC0, Lib.hid (fun _ h => by cases h)⟩
    case round =>
      obtain ⟨tk, out, lo, hmg, HLO, HSP, HSUM, HO, HT, HBW, HSW, HLC, HMEM⟩ := hrel
      have HMG := Lib.hid hmg
      clear hmg M1 HBW0 HS0 HLC0 HRS HKL
      obtain ⟨qo, co, rfl⟩ := own_slice HO.out
      by_cases hlk : (lo : Int) < k
      · have t1 : decide ((lo : Int) < k) = true := decide_eq_true hlk
        have HLK := Lib.hid hlk
        clear hlk
        go_wp2_with fail
        go_loopg [13, 14, 15] n (fun g bv mv iv wx => ∃ q : Nat, iv = .int .i64 (q : Int) ∧ q + g = n ∧ bv = .int .i64 (bestV ((leftS zr zi re im tk (L.take q)).map fun i => (i, lstR (dA re im) out i))).1 ∧ mv = .int .i64 (bestV ((leftS zr zi re im tk (L.take q)).map fun i => (i, lstR (dA re im) out i))).2 ∧ ∃ d, wx = wr.drewN d)
        case atStart => exact ⟨0, rfl, by omega, rfl, rfl, 0, rfl⟩
        case round =>
          rename World => wx
          obtain ⟨q, rfl, hq, rfl, rfl, d0, hwx⟩ := hrel
          have HQ := Lib.hid hq
          have HWX : Hid (∃ d, wx = wr.drewN d) := Lib.hid ⟨d0, hwx⟩
          have HBX : Hid (Below wr.heap.size wr wx) := Lib.hid (by rw [hwx]; exact below_drewN (Below.refl _ _) _)
          by_cases hql : q < n
          · have s1 : decide ((q : Int) < (n : Int)) = true := decide_eq_true (by omega)
            have s1n : decide (q < n) = true := decide_eq_true hql
            have HQL := Lib.hid hql
            obtain ⟨i, hi⟩ : ∃ i, L[q]? = some i := ⟨L[q]'(by rw [HLN.out]; exact hql), List.getElem?_eq_getElem _⟩
            have hin := HLT.out i (List.mem_of_getElem? hi)
            obtain ⟨rfl, hglq, hcl⟩ := HLC.out q i hi
            obtain rfl := HP.out (by omega)
            have k0 : wx.cell? ⟨gl, q, none⟩ = some (.int .i64 (i : Int)) := (HBX.out.cell (p := ⟨gl, q, none⟩) (by have := HSW.out; show gl < _; omega)).trans hcl
            have k1 : wx.cell? ⟨qt, i, none⟩ = some (.bool (tk i)) := (HBX.out.cell (p := ⟨qt, i, none⟩) HT.out.lt).trans ((HT.out.cell i).trans (tkF_get tk n i hin))
            have k2 : wx.cell? ⟨lb, i, none⟩ = some (.complex .f64 (re i) (im i)) := by rw [hwx]; exact HLX.out wr HBW.out i hin
            have hsn := leftS_snoc zr zi re im tk (L.take q) i
            rw [show L.take q ++ [i] = L.take (q + 1) by rw [List.take_add_one, hi]; rfl] at hsn
            have HD1 : Hid (∀ X, Calls Try.prog 17 #[.complex .f64 zr zi, .complex .f64 (re i) (im i)] X fun e w' => e = .returned (.int .i64 (distI (pl zr) (pl zi) (pl (re i)) (pl (im i)))) ∧ X = w') := Lib.hid fun X => rdist_any _ _ _ _ X
            have HIN := Lib.hid hin
            have HI := Lib.hid hi
            have ia : ((q : Int)).toNat = q := by omega
            have ip : (0 : Int) ≤ (q : Int) := by omega
            have iz : (q : Int) < (n : Int) := by omega
            have na : ((i : Int)).toNat = i := by omega
            have np : (0 : Int) ≤ (i : Int) := by omega
            have nz : (i : Int) < (n : Int) := by omega
            have kw : q + 1 < 8796093022212 := by have := HSZ.out; omega
            have HKW := Lib.hid kw
            clear hi hglq hcl hql hq kw hwx
            by_cases htk : tk i = true
            · rw [htk] at k1
              rw [if_pos (.inl htk)] at hsn
              have HSN := Lib.hid hsn
              have kw := HKW.out
              clear hsn htk hin
              go_wp2_with fail
              clear kw
              go_roundg (n - (q + 1))
              case measure => have := HQ.out; have := HQL.out; omega
              case rel => exact ⟨q + 1, by first | rfl | go_num, by have := HQ.out; have := HQL.out; omega, by rw [HSN.out], by rw [HSN.out], HWX.out⟩
            · have htf : tk i = false := by simpa using htk
              rw [htf] at k1
              by_cases hd : distI (pl zr) (pl zi) (pl (re i)) (pl (im i)) < 0
              · rw [if_pos (.inr hd)] at hsn
                have HSN := Lib.hid hsn
                have u1 : decide (distI (pl zr) (pl zi) (pl (re i)) (pl (im i)) < 0) = true := decide_eq_true hd
                generalize distI (pl zr) (pl zi) (pl (re i)) (pl (im i)) = dd at HD1 u1
                have kw := HKW.out
                clear hsn htk htf hin hd
                go_wp2_with fail
                refine (HD1.out _).mono ?_
                rintro _ _ ⟨rfl, rfl⟩
                go_wp2_with fail
                clear kw
                go_roundg (n - (q + 1))
                case measure => have := HQ.out; have := HQL.out; omega
                case rel => exact ⟨q + 1, by first | rfl | go_num, by have := HQ.out; have := HQL.out; omega, by rw [HSN.out], by rw [HSN.out], HWX.out⟩
              · rw [if_neg (by rintro (h | h); exact htk h; exact hd h)] at hsn
                have u1 : decide (distI (pl zr) (pl zi) (pl (re i)) (pl (im i)) < 0) = false := decide_eq_false hd
                generalize distI (pl zr) (pl zi) (pl (re i)) (pl (im i)) = dd at HD1 u1
                have hbs := bestV_snoc ((leftS zr zi re im tk (L.take q)).map fun i => (i, lstR (dA re im) out i)) (i, lstR (dA re im) out i)
                rw [show ((leftS zr zi re im tk (L.take q)).map fun i => (i, lstR (dA re im) out i)) ++ [(i, lstR (dA re im) out i)] = (leftS zr zi re im tk (L.take (q + 1))).map fun i => (i, lstR (dA re im) out i) by rw [hsn, List.map_append]; rfl] at hbs
                have HBS := Lib.hid hbs
                clear hsn htk htf hd hbs
                generalize bestV ((leftS zr zi re im tk (L.take q)).map fun i => (i, lstR (dA re im) out i)) = bl at HBS ⊢
                obtain ⟨bb, ll⟩ := bl
                dsimp only at HBS ⊢
                go_wp2_with fail
                refine (HD1.out _).mono ?_
                rintro _ _ ⟨rfl, rfl⟩
                clear HD1
                go_wp2_with fail
                go_loopg [17, 18] lo (fun g dv jv wy => ∃ j : Nat, jv = .int .i64 (j : Int) ∧ j + g = lo ∧ dv = .int .i64 (leastR ((out.take j).map (dA re im i))) ∧ ∃ d, wy = wx.drewN d)
                case atStart => exact ⟨0, rfl, by omega, rfl, 0, rfl⟩
                case round =>
                  rename World => wy
                  obtain ⟨j, rfl, hj, rfl, d1, hwy⟩ := hrel
                  have HJ := Lib.hid hj
                  have HWY : Hid (∃ d, wy = wx.drewN d) := Lib.hid ⟨d1, hwy⟩
                  by_cases hjl : j < lo
                  · have r1 : decide ((j : Int) < (lo : Int)) = true := decide_eq_true (by omega)
                    have r1n : decide (j < lo) = true := decide_eq_true hjl
                    have HJL := Lib.hid hjl
                    obtain ⟨o, ho⟩ : ∃ o, out[j]? = some o := ⟨out[j]'(by rw [HLO.out]; exact hjl), List.getElem?_eq_getElem _⟩
                    have hon := HLT.out o (keepS_mem (HMEM.out o (List.mem_of_getElem? ho))).1
                    obtain ⟨go, cap', e, _, hgo, hC⟩ := own_some HO.out (by omega)
                    cases e
                    have hcg : wr.cell? ⟨go, j, none⟩ = some (.int .i64 (o : Int)) := (hC.get (j := j) (by unfold ints natI; rw [List.getElem?_map, List.getElem?_map, ho]; rfl)).1
                    have c0 : ∀ d, (wy.drewN d).cell? ⟨go, j, none⟩ = some (.int .i64 (o : Int)) := fun d => by obtain ⟨a, ha⟩ := HWX.out; rw [hwy, ha]; exact hcg
                    have c1 : ∀ d, (wy.drewN d).cell? ⟨lb, i, none⟩ = some (.complex .f64 (re i) (im i)) := fun d => by rw [hwy]; exact k2
                    have c2 : ∀ d, (wy.drewN d).cell? ⟨lb, o, none⟩ = some (.complex .f64 (re o) (im o)) := fun d => by obtain ⟨a, ha⟩ := HWX.out; rw [hwy, ha]; exact HLX.out wr HBW.out o hon
                    have hls := leastR_snoc ((out.take j).map (dA re im i)) (dA re im i o)
                    rw [show (out.take j).map (dA re im i) ++ [dA re im i o] = (out.take (j + 1)).map (dA re im i) by rw [List.take_add_one, ho, List.map_append]; rfl] at hls
                    have HD : Hid (∀ X, Calls Try.prog 17 #[.complex .f64 (re i) (im i), .complex .f64 (re o) (im o)] X fun e w' => e = .returned (.int .i64 (dA re im i o)) ∧ X = w') := Lib.hid fun X => rdist_any _ _ _ _ X
                    generalize leastR ((out.take j).map (dA re im i)) = cur at hls
                    generalize dA re im i o = dO at hls HD
                    have ja : ((j : Int)).toNat = j := by omega
                    have jp : (0 : Int) ≤ (j : Int) := by omega
                    have jz : (j : Int) < (lo : Int) := by omega
                    have oa : ((o : Int)).toNat = o := by omega
                    have op : (0 : Int) ≤ (o : Int) := by omega
                    have oz : (o : Int) < (n : Int) := by omega
                    have kw : j + 1 < 8796093022212 := by have := HSUM.out; have := HSZ.out; omega
                    have HKJ := Lib.hid kw
                    clear ho hon hgo hC hcg hjl hj hwy kw k0 k1 k2
                    by_cases hc : dO < cur
                    · have v1 : decide (dO < cur) = true := decide_eq_true hc
                      rw [if_pos hc] at hls
                      have HLS := Lib.hid hls
                      clear hc hls
                      go_upto_region 18 with (fail)
                      go_quiet ((go_at_call 17; exact quiet_of (HD.out _)))
                      try rw [v1]
                      have c3 : ∀ d, ((wy.drewN nq).drewN d).cell? ⟨go, j, none⟩ = some (.int .i64 (o : Int)) := fun d => c0 d
                      have c4 : ∀ d, ((wy.drewN nq).drewN d).cell? ⟨lb, i, none⟩ = some (.complex .f64 (re i) (im i)) := fun d => c1 d
                      have c5 : ∀ d, ((wy.drewN nq).drewN d).cell? ⟨lb, o, none⟩ = some (.complex .f64 (re o) (im o)) := fun d => c2 d
                      have HWQ : Hid (∃ d, wy.drewN nq = wx.drewN d) := Lib.hid (drewN_more HWY.out nq)
                      clear c0 c1 c2
                      generalize wy.drewN nq = wz at c3 c4 c5 HWQ ⊢
                      go_upto_region 19 with (fail)
                      go_quiet ((go_at_call 17; exact quiet_of (HD.out _)))
                      have kw := HKJ.out
                      go_wp2_with fail
                      clear kw
                      go_roundg (lo - (j + 1))
                      case measure => have := HJ.out; have := HJL.out; omega
                      case rel => exact ⟨j + 1, by first | rfl | go_num, by have := HJ.out; have := HJL.out; omega, by rw [HLS.out], drewN_more HWQ.out _⟩
                    · have v1 : decide (dO < cur) = false := decide_eq_false hc
                      rw [if_neg hc] at hls
                      have HLS := Lib.hid hls
                      clear hc hls
                      go_upto_region 18 with (fail)
                      go_quiet ((go_at_call 17; exact quiet_of (HD.out _)))
                      try rw [v1]
                      have kw := HKJ.out
                      go_wp2_with fail
                      clear kw
                      go_roundg (lo - (j + 1))
                      case measure => have := HJ.out; have := HJL.out; omega
                      case rel => exact ⟨j + 1, by first | rfl | go_num, by have := HJ.out; have := HJL.out; omega, by rw [HLS.out], drewN_more HWY.out _⟩
                  · have r1 : decide ((j : Int) < (lo : Int)) = false := decide_eq_false (by omega)
                    have r1n : decide (j < lo) = false := decide_eq_false hjl
                    rw [List.take_of_length_le (by rw [HLO.out]; omega)]
                    change Hid (bestV _ = if (ll < lstR (dA re im) out i) then _ else _) at HBS
                    have hlr : leastR (out.map (dA re im i)) = lstR (dA re im) out i := rfl
                    rw [hlr]
                    generalize lstR (dA re im) out i = dv at HBS ⊢
                    clear hjl hj hwy hlr
                    have HWZ : Hid (∃ d, wy = wr.drewN d) := Lib.hid (by obtain ⟨a, ha⟩ := HWX.out; obtain ⟨b, hb⟩ := HWY.out; rw [hb]; exact drewN_more ⟨a, ha⟩ b)
                    by_cases hc : ll < dv
                    · have v1 : decide (ll < dv) = true := decide_eq_true hc
                      have hbs := HBS.out
                      rw [if_pos hc] at hbs
                      have HBT := Lib.hid hbs
                      have kw := HKW.out
                      clear hc hbs HBS k0 k1 k2
                      go_wp2_with fail
                      clear kw
                      go_roundg (n - (q + 1))
                      case measure => have := HQ.out; have := HQL.out; omega
                      case rel => exact ⟨q + 1, by first | rfl | go_num, by have := HQ.out; have := HQL.out; omega, by rw [HBT.out], by rw [HBT.out], HWZ.out⟩
                    · have v1 : decide (ll < dv) = false := decide_eq_false hc
                      have hbs := HBS.out
                      rw [if_neg hc] at hbs
                      have HBT := Lib.hid hbs
                      have kw := HKW.out
                      clear hc hbs HBS k0 k1 k2
                      go_wp2_with fail
                      clear kw
                      go_roundg (n - (q + 1))
                      case measure => have := HQ.out; have := HQL.out; omega
                      case rel => exact ⟨q + 1, by first | rfl | go_num, by have := HQ.out; have := HQL.out; omega, by rw [HBT.out], by rw [HBT.out], HWZ.out⟩
          · have s1 : decide ((q : Int) < (n : Int)) = false := decide_eq_false (by omega)
            have s1n : decide (q < n) = false := decide_eq_false hql
            have htk : L.take q = L := List.take_of_length_le (by rw [HLN.out]; omega)
            have HWB := Lib.hid (below_then HBW.out HBW.out.size HBX.out)
            have HOX := Lib.hid (own_below HO.out HBX.out (Nat.le_refl _))
            have HTX := Lib.hid (HT.out.below HBX.out HT.out.lt)
            have HSX : Hid (qt + 1 ≤ wx.heap.size) := Lib.hid (Nat.le_trans HSW.out HBX.out.size)
            have HLY : Hid (∀ (q j : Nat), L[q]? = some j → A1 = some ⟨gl, 0, none⟩ ∧ gl < qt ∧ wx.cell? ⟨gl, q, none⟩ = some (.int .i64 (j : Int))) := Lib.hid fun q j h => by
              obtain ⟨h1, h2, h3⟩ := HLC.out q j h
              exact ⟨h1, h2, (HBX.out.cell (p := ⟨gl, q, none⟩) (by have := HSW.out; show gl < _; omega)).trans h3⟩
            by_cases hne : leftS zr zi re im tk L = []
            · have hb : bestV ((leftS zr zi re im tk (L.take q)).map fun i => (i, lstR (dA re im) out i)) = (-1, -1) := by rw [htk, hne]; rfl
              rw [hb]
              dsimp only
              have hR : out = R := by rw [← HSP.out]; exact (spr_stop (by rintro ⟨_, h⟩; exact h hne)).symm
              have HOF : Hid (wx.ownsRow w.heap.size 3 1 (.slice qo lo co) (natI R).length (ints (natI R))) := Lib.hid (by
                rw [← hR]
                have h1 : (natI out).length = lo := by unfold natI; rw [List.length_map]; exact HLO.out
                rw [h1]
                exact own_mono HOX.out (by have := HQW.out; omega))
              clear hb hne hR htk hq hql hwx
              go_wp2_with fail
              exact bodyPost_ret (results_tmp (by rfl) _ _ _) (by rfl) ⟨.slice qo lo co, by rfl, by rw [← HRE.out]; exact HOF.out, HWB.out⟩
            · obtain ⟨kk, ii, cc, dd, hii, hbk, hbv, hd0⟩ := pick_same (D := dA re im) (out := out) (near := leftS zr zi re im tk L) (fun i hi j hj => HKD.out i (leftS_mem hi) j (HMEM.out j hj)) hne
              have hst := spr_step (D := dA re im) (n := k) (out := out) (near := leftS zr zi re im tk L) (by have := HLO.out; have := HLK.out; omega) hne hii hbk
              rw [← leftS_take HND.out hii] at hst
              have hlen : (leftS zr zi re im (fun j => if j = ii then true else tk j) L).length = (leftS zr zi re im tk L).length - 1 := by rw [leftS_take HND.out hii, List.length_eraseIdx_of_lt (List.getElem?_eq_some_iff.1 hii).1]
              have hpos := List.length_pos_iff.2 hne
              have hmi := leftS_mem (List.mem_of_getElem? hii)
              have hin := HLT.out ii (keepS_mem hmi).1
              rw [htk, hbv]
              dsimp only
              have HST := Lib.hid hst
              have HLEN := Lib.hid hlen
              have HPOS := Lib.hid hpos
              have HMI := Lib.hid hmi
              have HIN := Lib.hid hin
              have k1 : wx.cell? ⟨qt, ii, none⟩ = some (.bool (tk ii)) := (HTX.out.cell ii).trans (tkF_get tk n ii hin)
              have k2 : wx.frozen? ⟨qt, ii, none⟩ = false := HTX.out.frozen ii
              have u1 : decide ((ii : Int) < 0) = false := decide_eq_false (by omega)
              have na : ((ii : Int)).toNat = ii := by omega
              have np : (0 : Int) ≤ (ii : Int) := by omega
              have nz : (ii : Int) < (n : Int) := by omega
              clear hii hbk hbv hd0 hst hlen hpos hmi hin hne htk hq hql hwx
              go_upto_region 25 with (fail)
              have HT8 := Lib.hid (HTX.out.set ii (.bool true))
              rw [tkF_set tk n ii HIN.out] at HT8
              have HF8 : Hid (Fr wx (wx.setCell ⟨qt, ii, none⟩ (.bool true)) (fun z => z = qt)) := Lib.hid ((Fr.refl wx _).setCell _ _ fun _ => rfl)
              generalize wx.setCell ⟨qt, ii, none⟩ (.bool true) = w8 at HT8 HF8 ⊢
              have HO8 := Lib.hid (own_fr HOX.out HF8.out (fun z hz e => by subst e; have := (own_lt_of HOX.out hz).1; omega))
              have HS8 : Hid (qt + 1 ≤ w8.heap.size) := Lib.hid (Nat.le_trans HSX.out HF8.out.size)
              have HB8 : Hid (Below w.heap.size w w8) := Lib.hid (HWB.out.trans (HF8.out.below (fun z _ e => by subst e; exact HQW.out) HWB.out.size))
              have HL8 : Hid (∀ (q j : Nat), L[q]? = some j → A1 = some ⟨gl, 0, none⟩ ∧ gl < qt ∧ w8.cell? ⟨gl, q, none⟩ = some (.int .i64 (j : Int))) := Lib.hid fun q j h => by
                obtain ⟨h1, h2, h3⟩ := HLY.out q j h
                exact ⟨h1, h2, (HF8.out.cell (by have := HSX.out; show gl < _; omega) (by show ¬ gl = qt; omega)).trans h3⟩
              clear k1 k2 u1 HO HT HOX HTX
              go_wp2_with (at_builtin
                           refine Cov8.out ?_)
              refine Cov8.mk ?_
              refine wpList_appw rfl _ _ 40 rfl (qt + 1) 3 _ 1 8 Try.underlying40 int_info rfl (by decide) _ lo _ rfl HO8.out [.int .i64 (ii : Int)] _ 1 1 rfl rfl rfl (by have := HSUM.out; have := HSZ.out; have := HPOS.out; unfold maxLen; omega) (by have := HSUM.out; have := HSZ.out; have := HPOS.out; omega) HS8.out ?_
              intro v' w9 hO hG
              have HB9 := Lib.hid (below_row HO8.out hG.out (Below.refl (qt + 1) w8) (Nat.le_refl _) HS8.out)
              have HT9 := Lib.hid (HT8.out.below HB9.out (Nat.lt_succ_self _))
              have HL9 : Hid (∀ (q j : Nat), L[q]? = some j → A1 = some ⟨gl, 0, none⟩ ∧ gl < qt ∧ w9.cell? ⟨gl, q, none⟩ = some (.int .i64 (j : Int))) := Lib.hid fun q j h => by
                obtain ⟨h1, h2, h3⟩ := HL8.out q j h
                exact ⟨h1, h2, (HB9.out.cell (p := ⟨gl, q, none⟩) (by show gl < _; omega)).trans h3⟩
              have HW9 := Lib.hid (HB8.out.trans (HB9.out.mono (by have := HQW.out; omega)))
              clear hG
              go_wp2_with fail
              go_roundg ((leftS zr zi re im tk L).length - 1)
              case measure => have := HMG.out; have := HPOS.out; omega
              case rel => exact ⟨fun j => if j = ii then true else tk j, out ++ [ii], lo + 1, HLEN.out, Lib.hid (by rw [List.length_append, HLO.out]; rfl), Lib.hid (HST.out ▸ HSP.out), Lib.hid (by rw [HLEN.out]; have := HSUM.out; have := HPOS.out; omega), Lib.hid (by have := hO.out; unfold natI ints at this ⊢; rw [List.map_append, List.map_append]; exact this), HT9, HW9, Lib.hid (Nat.le_trans HS8.out HB9.out.size), HL9, Lib.hid (fun x hx => by
                rcases List.mem_append.1 hx with h | h
                · exact HMEM.out x h
                · rw [List.mem_singleton.1 h]; exact HMI.out)⟩
      · have t1 : decide ((lo : Int) < k) = false := decide_eq_false hlk
        have hR : out = R := by rw [← HSP.out]; exact (spr_stop (by rw [HLO.out]; rintro ⟨h1, _⟩; exact hlk h1)).symm
        have HOF : Hid (wr.ownsRow w.heap.size 3 1 (.slice qo lo co) (natI R).length (ints (natI R))) := Lib.hid (by
          rw [← hR]
          have h1 : (natI out).length = lo := by unfold natI; rw [List.length_map]; exact HLO.out
          rw [h1]
          exact own_mono HO.out (by have := HQW.out; omega))
        clear hlk hR
        go_wp2_with fail
        exact bodyPost_ret (results_tmp (by rfl) _ _ _) (by rfl) ⟨.slice qo lo co, by rfl, by rw [← HRE.out]; exact HOF.out, HBW.out⟩
  · have HPL : Hid (Calls Try.prog 28 #[.complex .f64 zr zi] w fun e w' => e = .returned (.tuple #[.int .i64 0, .int .i64 0, .bool false]) ∧ w = w') := Lib.hid (by
      have : placeV (pl zr) (pl zi) = .tuple #[.int .i64 0, .int .i64 0, .bool false] := by
        cases h3 : pl zr <;> cases h4 : pl zi <;> simp_all [placeV]
      rw [this] at hpl
      exact hpl)
    have HRE := Lib.hid (spreadL_none re im n k hok)
    clear hpl hok HNC
    go_enter Try.func23, Try.ntmps23
    go_wp2_with fail
    refine HPL.out.mono ?_
    rintro _ _ ⟨rfl, rfl⟩
    go_wp2_with fail
    exact bodyPost_ret (results_tmp (by rfl) _ _ _) (by rfl) ⟨.slice none 0 0, by rfl, by rw [HRE.out]; exact World.ownsRow_nil _ _ _ _, Below.refl _ _⟩
end Go.Proofs.Ytgblbhbmeflckaa
