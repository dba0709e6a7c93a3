/- PlanFair: no task twice, none left while a worker is idle, the nearest first: the walk. -/
import Derived.Test.YtmggalbdlabcmaaPlanSpk
import Derived.Test.YtmggalbdlabcmaaView
import Derived.Test.YtmggalbdlabcmaaPlanTsk
import Derived.Test.YtmggalbdlabcmaaShare
import Derived.Deep.CutBlock
namespace Go.Proofs.Ytmggalbdlabcmaa
open Go.RowKit Go.Lib St Fl Go.Sort
set_option linter.unusedVariables false
set_option linter.unusedSimpArgs false
theorem shStep_pre (ts : List (Int × List Spot)) (s : List Int × List Nat) (z : Spot) : ∃ x, (shStep ts s z).1 = s.1 ++ [x] := by
  unfold shStep
  split
  · exact ⟨_, rfl⟩
  · exact ⟨_, rfl⟩
theorem share_pre (ts : List (Int × List Spot)) : ∀ (zs : List Spot) (s : List Int × List Nat), s.1 <+: (zs.foldl (shStep ts) s).1
  | [], s => List.prefix_refl _
  | z :: zs, s => by
    obtain ⟨x, hx⟩ := shStep_pre ts s z
    exact (List.IsPrefix.trans ⟨[x], hx.symm⟩ (share_pre ts zs (shStep ts s z)))
/-- what worker k is given -/
theorem share_at {ts : List (Int × List Spot)} {zs : List Spot} {k : Nat} {z : Spot} (hz : zs[k]? = some z) : ∃ x, (shareP ts zs).1[k]? = some x ∧ shareP ts (zs.take (k + 1)) = ((shareP ts (zs.take k)).1 ++ [x], (shareP ts (zs.take (k + 1))).2) ∧ shareP ts (zs.take (k + 1)) = shStep ts (shareP ts (zs.take k)) z := by
  have hk := (List.getElem?_eq_some_iff.1 hz).1
  have e1 : zs.take (k + 1) = zs.take k ++ [z] := by rw [List.take_add_one, hz]; rfl
  have e2 := shareP_snoc ts (zs.take k) z
  rw [← e1] at e2
  obtain ⟨x, hx⟩ := shStep_pre ts (shareP ts (zs.take k)) z
  have hpre : (shareP ts (zs.take (k + 1))).1 <+: (shareP ts zs).1 := by
    conv => rhs; rw [← List.take_append_drop (k + 1) zs]
    unfold shareP
    rw [List.foldl_append]
    exact share_pre ts _ _
  rw [e2, hx] at hpre
  have hl := (shareP_ok ts (zs.take k)).len
  rw [show (zs.take k).length = k by rw [List.length_take]; omega] at hl
  obtain ⟨r, hr⟩ := hpre
  refine ⟨x, ?_, ?_, e2⟩
  · rw [← hr, List.append_assoc, List.getElem?_append_right (by omega), hl, Nat.sub_self]
    rfl
  · rw [e2]
    exact Prod.ext hx rfl
def tkC (lf : List Nat) (n : Nat) : List Value := (List.range n).map fun i => .bool (decide (i ∉ lf))
theorem tkC_get (lf : List Nat) {n i : Nat} (hi : i < n) : (tkC lf n)[i]? = some (.bool (decide (i ∉ lf))) := by
  unfold tkC
  rw [List.getElem?_map, List.getElem?_range hi]; rfl
theorem tkC_start (n : Nat) : tkC (List.range n) n = List.replicate n (.bool false) := by
  apply List.ext_getElem?
  intro i
  by_cases hi : i < n
  · rw [tkC_get _ hi, List.getElem?_replicate, if_pos hi, decide_eq_false (by simp [hi])]
  · rw [List.getElem?_eq_none (by unfold tkC; simp; omega), List.getElem?_eq_none (by simp; omega)]
theorem tkC_take {lf : List Nat} (hn : lf.Nodup) (n i : Nat) (hi : i < n) : (tkC lf n).set i (.bool true) = tkC (lf.erase i) n := by
  apply List.ext_getElem?
  intro j
  by_cases hj : j < n
  · rw [tkC_get _ hj, List.getElem?_set]
    by_cases e : i = j
    · subst e
      rw [if_pos rfl, if_pos (by unfold tkC; simpa using hi), decide_eq_true (by rw [hn.mem_erase_iff]; simp)]
    · rw [if_neg e, tkC_get _ hj]
      have : (j ∉ lf) ↔ (j ∉ lf.erase i) := by rw [hn.mem_erase_iff]; simp [Ne.symm e]
      rw [decide_eq_decide.2 this]
  · rw [List.getElem?_eq_none (by unfold tkC; simp; omega), List.getElem?_eq_none (by unfold tkC; simp; omega)]
set_option maxRecDepth 20000 in
set_option maxHeartbeats 8000000 in
theorem planFair_walk (W : World) (sa : Option Addr) (n sc : Nat) (xs : List (List (Int × Int))) (hR : RPairss W [.slice sa n sc] xs) (sb : Option Addr) (m sd : Nat) (ws : List (Int × Int)) (hW : RPairs W [.slice sb m sd] ws) :
    Calls Try.prog 5 #[.slice sa n sc, .slice sb m sd] W fun e w' => e = .returned (.bool true) ∧ Below W.heap.size W w' := by
  have HWS := Lib.hid hW
  have hwl : ws.length = m ∧ m ≤ 8796093021952 := by
    obtain ⟨a', n', c', hv, h1, h2, h3, _⟩ := hW
    cases hv
    omega
  have HWL := Lib.hid hwl
  obtain ⟨a', n', c', hv, hn, hnc, hcb, hcm, hno, hel⟩ := hR
  cases hv
  have HN := Lib.hid hn
  have HNB : Hid (n ≤ 5864062014635) := Lib.hid (by omega)
  have HEL := Lib.hid hel
  clear hW hwl hn hnc hcb hcm hno hel
  go_enter Try.func5, Try.ntmps5
  go_wp2_with fail
  refine (plSpeaks_any W).mono ?_
  rintro _ w1 ⟨rfl, hb1⟩
  have HB1 := Lib.hid hb1
  clear hb1
  go_wp2_with fail
  go_loopg [5, 6] n (fun g v5 v7 wr => ∃ (i : Nat) (us : List Value), v7 = .int .i64 (i : Int) ∧ i + g = n ∧ Hid (InAt wr W.heap.size v5 us (tsk (xs.take i))) ∧ Hid (Below W.heap.size W wr))
  case atStart => exact ⟨0, [], rfl, by omega, Lib.hid (InAt.nil _ _), HB1⟩
  case round =>
    obtain ⟨i, us, rfl, hi, HIN, HB⟩ := hrel
    have HI := Lib.hid hi
    clear HB1
    by_cases hlt : i < n
    · have t1 : decide ((i : Int) < (n : Int)) = true := decide_eq_true (by omega)
      have t1n : decide (i < n) = true := decide_eq_true hlt
      have HLT := Lib.hid hlt
      obtain ⟨ps, hp⟩ : ∃ ps, xs[i]? = some ps := ⟨xs[i]'(by rw [HN.out]; exact hlt), List.getElem?_eq_getElem _⟩
      obtain ⟨b, off, rfl, hbW, hel⟩ := HEL.out (by omega)
      obtain ⟨es, _, hes, hRP⟩ := hel i ps hp
      obtain ⟨pa, pn, pc, rfl⟩ : ∃ pa pn pc, es = [.slice pa pn pc] := by
        obtain ⟨a, n, c, e, _⟩ := hRP
        exact ⟨a, n, c, e⟩
      have hpl : ps.length = pn ∧ pn ≤ 8796093021952 := by
        obtain ⟨a, n, c, e, h1, h2, h3, _⟩ := hRP
        cases e
        omega
      have k0 : wr.cell? ⟨b, off + i, none⟩ = some (.slice pa pn pc) := by
        have := hes 0 _ rfl
        rw [Nat.mul_one, Nat.add_zero] at this
        exact (HB.out.cell (p := ⟨b, off + i, none⟩) hbW).trans this
      have HRP := Lib.hid hRP
      have HPL := Lib.hid hpl
      have HTN := Lib.hid (tsk_next hp)
      have htl : (tsk (xs.take i)).length = i := by rw [tsk_len, List.length_take, HN.out]; omega
      have HTL := Lib.hid htl
      have kw : i + 1 < 8796093022209 := by have := HNB.out; omega
      have ia : ((i : Int)).toNat = i := by omega
      have ip : (0 : Int) ≤ (i : Int) := by omega
      have iz : (i : Int) < (n : Int) := by omega
      clear hp hel hes hRP hpl htl hlt hi
      go_wp2_with fail
      refine (points_c ps pa pn pc wr (HRP.out.below HB.out (Nat.le_refl _))).mono ?_
      rintro _ w2 ⟨u, rfl, hb2, hou⟩
      have HU : Hid (w2.ownsRow W.heap.size 31 1 u ps.length ((ps.map spotOf).map spotC)) := Lib.hid (by rw [List.map_map]; exact own_mono hou HB.out.size)
      have HB2 := Lib.hid (below_then HB.out HB.out.size hb2)
      have HIN2 := Lib.hid (HIN.out.below hb2 (Nat.le_refl _))
      have HRW := Lib.hid (show w2.ownsRow W.heap.size 29 2 _ i (List.zipWith taskRow us (tsk (xs.take i))).flatten from HTL.out ▸ HIN2.out.row)
      obtain ⟨qu, cu, rfl⟩ := own_slice HU.out
      clear hb2 hou k0 HIN HB
      go_wp2_with (at_builtin
                   refine wpList_appw rfl _ _ 24 rfl W.heap.size 29 _ 2 32 Try.underlying24 ptask_info rfl (by decide) _ i _ rfl HRW.out [.int .i64 (i : Int), .slice qu ps.length cu] _ 1 1 rfl rfl rfl (by have := HNB.out; have := HLT.out; unfold maxLen; omega) (by have := HNB.out; have := HLT.out; omega) HB2.out.size ?_
                   intro v' w3 hO hG
                   have HB3 := Lib.hid (below_row HRW.out hG.out HB2.out (Nat.le_refl _) HB2.out.size)
                   have HIN3 := Lib.hid (HIN2.out.push (t := ((i : Int), ps.map spotOf)) (by rw [List.length_map]; exact HU.out) (by rw [List.length_map]; have := HPL.out; omega) (by rw [HTL.out]; exact hO.out) hG.out)
                   rw [← HTN.out] at HIN3)
      clear kw
      go_roundg (n - (i + 1))
      case measure => have := HI.out; have := HLT.out; omega
      case rel => exact ⟨i + 1, us ++ [.slice qu ps.length cu], by first | rfl | go_num, by have := HI.out; have := HLT.out; omega, HIN3, HB3⟩
    · have t1 : decide ((i : Int) < (n : Int)) = false := decide_eq_false (by omega)
      have t1n : decide (i < n) = false := decide_eq_false hlt
      have htk : xs.take i = xs := List.take_of_length_le (by have := HN.out; omega)
      rw [htk] at HIN
      obtain ⟨pi, ci, hvi, hta⟩ := HIN.out.tasks (by rw [tsk_len]; have := HNB.out; have := HN.out; omega)
      rw [tsk_len, HN.out] at hvi hta
      have HTA := Lib.hid hta
      have HTSL : Hid ((tsk xs).length = n) := Lib.hid (by rw [tsk_len, HN.out])
      generalize tsk xs = ts at HTA HTSL
      clear hlt hi htk hta HIN
      subst hvi
      go_wp2_with fail
      refine (points_c ws sb m sd wr (HWS.out.below HB.out (Nat.le_refl _))).mono ?_
      rintro _ w2 ⟨u, rfl, hb2, hou⟩
      have hou2 : w2.ownsRow wr.heap.size 31 1 u (ws.map spotOf).length ((ws.map spotOf).map spotC) := by rw [List.map_map, List.length_map]; exact hou
      obtain ⟨pz, cz, rfl, hza⟩ := hold_of_own hou2 (by rw [List.length_map]; have := HWL.out; omega)
      have HB2 := Lib.hid (below_then HB.out HB.out.size hb2)
      have HT2 := Lib.hid (HTA.out.below hb2 (Nat.le_refl _))
      have HZL : Hid ((ws.map spotOf).length = m) := Lib.hid (by rw [List.length_map]; exact HWL.out.1)
      generalize ws.map spotOf = zs at hza HZL
      rw [HZL.out] at hza
      have HZ2 := Lib.hid hza
      have hzz := HZL.out
      rw [hzz]
      clear hou hou2 hza hb2 hzz HTA
      go_wp2_with fail
      refine (share_c pi n ci ts pz m cz zs w2 HT2.out (by have := HNB.out; omega) HZ2.out (by have := HWL.out; omega)).mono ?_
      rintro _ w3 ⟨vo, rfl, hoo, hb3⟩
      have HB3 := Lib.hid (below_then HB2.out HB2.out.size hb3)
      have HT3 := Lib.hid (HT2.out.below hb3 (Nat.le_refl _))
      have HZ3 := Lib.hid (HZ2.out.below hb3 (Nat.le_refl _))
      obtain ⟨po, co, rfl⟩ := own_slice hoo
      have HRG : Hid (∃ g, (0 < m → po = some ⟨g, 0, none⟩ ∧ g < w3.heap.size ∧ ∀ (k : Nat) (x : Int), (shareP ts zs).1[k]? = some x → w3.cell? ⟨g, k, none⟩ = some (.int .i64 x))) := Lib.hid (by
        by_cases h0 : 0 < m
        · obtain ⟨g, cap, e, _, hgl, hC⟩ := own_some hoo h0
          cases e
          exact ⟨g, fun _ => ⟨rfl, hgl, fun a i hi => (hC.get (j := a) (by rw [List.getElem?_map, hi]; rfl)).1⟩⟩
        · exact ⟨0, fun e => absurd e h0⟩)
      have hmk := fun w => run_make1 (P := Try.prog) 38 4 (.bool false) 1 Try.underlying38 (by kernel_rfl) rfl n (by have := HNB.out; omega) (by have := HNB.out; omega) w
      clear hoo hb3 HT2 HZ2 HB2
      go_wp2_with fail
      have M0 := Lib.hid (Blk.make w3 n (.bool false) 4)
      rw [← tkC_start] at M0
      have MB := Lib.hid ((Below.refl w3.heap.size w3).alloc (Nat.le_refl _) (.cells (rep n (.bool false)) 4))
      generalize w3.alloc (.cells (rep n (.bool false)) 4) = w4 at M0 MB ⊢
      have HS0 : Hid ((shareP ts (zs.take 0)).2 = List.range n) := Lib.hid (by unfold shareP; simp [HTSL.out])
      clear hmk t1 t1n HI HB
      go_loopg [10, 11] m (fun g vn vk wr => ∃ k nn : Nat, vk = .int .i64 (k : Int) ∧ k + g = m ∧ vn = .int .i64 (nn : Int) ∧ nn + (shareP ts (zs.take k)).2.length = n ∧ Hid (Blk wr w3.heap.size (tkC (shareP ts (zs.take k)).2 n) 4) ∧ Hid (Below w3.heap.size w3 wr))
      case atStart => exact ⟨0, 0, rfl, by omega, rfl, by rw [HS0.out, List.length_range]; omega, by rw [HS0.out]; exact M0, MB⟩
      case round =>
        clear M0 MB HS0
        obtain ⟨k, nn, rfl, hk, rfl, hnn, HTK, HB⟩ := hrel
        have HK := Lib.hid hk
        by_cases hlt : k < m
        · have t1 : decide ((k : Int) < (m : Int)) = true := decide_eq_true (by omega)
          have t1n : decide (k < m) = true := decide_eq_true hlt
          have HLT := Lib.hid hlt
          obtain ⟨⟨zr, zi⟩, hz⟩ : ∃ z, zs[k]? = some z := ⟨zs[k]'(by rw [HZL.out]; exact hlt), List.getElem?_eq_getElem _⟩
          obtain ⟨x, hx, _, hst⟩ := share_at (ts := ts) hz
          obtain ⟨go, hgo⟩ := HRG.out
          obtain ⟨rfl, hgl, hgc⟩ := hgo (by omega)
          have k0 : wr.cell? ⟨go, k, none⟩ = some (.int .i64 x) := (HB.out.cell (p := ⟨go, k, none⟩) hgl).trans (hgc k x hx)
          have hok := shareP_ok ts (zs.take k)
          have hpre : (shareP ts (zs.take k)).1 ++ [x] = (shareP ts (zs.take (k + 1))).1 := by
            obtain ⟨x2, h1, h2, _⟩ := share_at (ts := ts) hz
            rw [hx] at h1
            obtain rfl := Option.some.inj h1
            rw [h2]
          rw [hst] at hpre
          have HNX := Lib.hid hst
          have HOK := Lib.hid hok
          have HNN := Lib.hid hnn
          generalize shareP ts (zs.take k) = s at hpre HNX HOK HNN HTK
          obtain ⟨os, lf⟩ := s
          dsimp only at hpre HNN HTK
          have ka : ((k : Int)).toNat = k := by omega
          have kp : (0 : Int) ≤ (k : Int) := by omega
          have kz : (k : Int) < (m : Int) := by omega
          have HKB : Hid (k + 1 < 8796093022209) := Lib.hid (by have := HWL.out; omega)
          rcases choose_is (lf.map fun i => (i, farS (zr, zi) (hsOf ts i))) with ⟨hch, hnil⟩ | ⟨⟨i, f⟩, hch, his⟩
          · have hst2 : shStep ts (os, lf) (zr, zi) = (os ++ [-1], lf) := by unfold shStep; dsimp only; rw [hch]
            rw [hst2] at hpre HNX
            obtain rfl : x = -1 := by simpa using hpre
            have hl0 : lf = [] := by simpa using hnil
            have hnn2 : nn = n := by have := HNN.out; rw [hl0] at this; simpa using this
            have d1 : decide ((nn : Int) < (n : Int)) = false := decide_eq_false (by omega)
            have d1n : decide (nn < n) = false := decide_eq_false (by omega)
            have d2 : decide ((n : Int) ≤ -1) = false := decide_eq_false (by omega)
            have kw := HKB.out
            clear hgo hgc hx hst hok hch hnil hl0 hnn2 hst2 hpre hz hlt hk hnn
            go_wp2_with fail
            clear kw
            go_roundg (m - (k + 1))
            case measure => have := HK.out; have := HLT.out; omega
            case rel => exact ⟨k + 1, nn, by first | rfl | go_num, by have := HK.out; have := HLT.out; omega, rfl, by rw [HNX.out]; exact HNN.out, by rw [HNX.out]; exact HTK, HB⟩
          · have hst2 : shStep ts (os, lf) (zr, zi) = (os ++ [(i : Int)], lf.erase i) := by unfold shStep; dsimp only; rw [hch]
            rw [hst2] at hpre HNX
            obtain rfl : x = (i : Int) := by simpa using hpre
            obtain ⟨i2, hi2, e⟩ := List.mem_map.1 his.mem
            injection e with e1 e2
            subst e1 e2
            have hin : i2 < n := by have := HOK.out.lt i2 hi2; rw [HTSL.out] at this; exact this
            obtain ⟨⟨tid, hs⟩, ht⟩ : ∃ t, ts[i2]? = some t := ⟨ts[i2]'(by rw [HTSL.out]; exact hin), List.getElem?_eq_getElem _⟩
            have HHS : Hid (hsOf ts i2 = hs) := Lib.hid (hsOf_at ht)
            have HLE : Hid (∀ (j : Nat) (t : Int × List Spot), ts[j]? = some t → j ∈ lf → 0 ≤ farS (zr, zi) t.2 → 0 ≤ farS (zr, zi) hs ∧ farS (zr, zi) hs ≤ farS (zr, zi) t.2) := Lib.hid fun j t hj hjl h0 => by
              have := his.le (j, farS (zr, zi) (hsOf ts j)) (List.mem_map.2 ⟨j, hjl, rfl⟩)
              rw [hsOf_at hj, hsOf_at ht] at this
              exact this h0
            have HNE : Hid (nn + 1 + (lf.erase i2).length = n) := Lib.hid (by
              have := HNN.out
              have h1 := List.length_erase_of_mem hi2
              have h2 : 0 < lf.length := List.length_pos_of_mem hi2
              omega)
            have hti : wr.cell? ⟨w3.heap.size, i2, none⟩ = some (.bool false) := by
              rw [HTK.out.cell, tkC_get lf hin, decide_eq_false (by simpa using hi2)]
            have i2a : ((i2 : Int)).toNat = i2 := by omega
            have i2p : (0 : Int) ≤ (i2 : Int) := by omega
            have i2z : (i2 : Int) < (n : Int) := by omega
            have d1 : decide ((i2 : Int) < -1) = false := decide_eq_false (by omega)
            have d2 : decide ((n : Int) ≤ (i2 : Int)) = false := decide_eq_false (by omega)
            have d2n : decide (n ≤ i2) = false := decide_eq_false (by omega)
            have d3 : decide ((0 : Int) ≤ (i2 : Int)) = true := decide_eq_true i2p
            have d4 : decide ((i2 : Int) < 0) = false := decide_eq_false (by omega)
            obtain ⟨gz, rfl, hgz, hcz⟩ := HZ3.out.at' (by omega)
            obtain ⟨gt, qt, mt, kt, rfl, hgt, ht0, ht1, hth⟩ := HT3.out.at' i2 _ ht
            have S0 : Hid (Below w3.heap.size w3 wr.drew) := Lib.hid (below_drewN HB.out 1)
            have A0 : ∀ X, Below w3.heap.size w3 X → X.cell? ⟨go, k, none⟩ = some (.int .i64 (i2 : Int)) := fun X h => (h.cell (p := ⟨go, k, none⟩) hgl).trans (hgc k _ hx)
            have A1 : ∀ X, Below w3.heap.size w3 X → X.cell? ⟨gz, k, none⟩ = some (.complex .f64 zr zi) := fun X h => (h.cell (p := ⟨gz, k, none⟩) hgz).trans (hcz k _ hz)
            have A2 : ∀ X, Below w3.heap.size w3 X → X.cell? ⟨gt, i2 * 2, none⟩ = some (.int .i64 tid) := fun X h => (h.cell (p := ⟨gt, i2 * 2, none⟩) hgt).trans ht0
            have A3 : ∀ X, Below w3.heap.size w3 X → X.cell? ⟨gt, i2 * 2 + 1, none⟩ = some (.slice qt mt kt) := fun X h => (h.cell (p := ⟨gt, i2 * 2 + 1, none⟩) hgt).trans ht1
            have HKX : Hid (∀ X Y, Below w3.heap.size w3 X → Below X.heap.size X Y → Below w3.heap.size w3 Y) := Lib.hid fun X Y h k => below_then h h.size k
            have HFX : Hid (∀ X, Below w3.heap.size w3 X → Calls Try.prog 9 #[.agg #[.int .i64 tid, .slice qt mt kt], .complex .f64 zr zi] X fun e w' => e = .returned (.int .i64 (farS (zr, zi) hs)) ∧ Below X.heap.size X w') := Lib.hid fun X h => far_c tid qt mt kt hs (zr, zi) X (hth.below h (Nat.le_refl _))
            have HZC := Lib.hid (hcz k _ hz)
            have HXC := Lib.hid (hgc k _ hx)
            have HTIN := Lib.hid hin
            have HI2 := Lib.hid hi2
            clear hgo hst hok hch hst2 hpre hlt hk hnn his hi2 hin hcz ht ht0 ht1 hth hgc hx hz
            go_upto_region 18 with (fail)
            clear hti k0 d1 d2 d2n d3 d4
            go_region_held3 (fun X => Below w3.heap.size w3 X)
              (with_reducible first | exact S0.out | assumption)
              (first
                | (go_at_call 9; (with_reducible refine (HFX.out _ (by assumption)).mono ?_); rintro _ wm ⟨rfl, hb⟩; have hsm := HKX.out _ _ (by assumption) hb; have HBM := Lib.hid hb; clear hb))
            have HTM := Lib.hid ((HTK.out.drewN 1).below HBM.out HTK.out.lt)
            have HSM := Lib.hid hsm
            clear A0 A1 A2 A3 HFX S0 hsm HBM HTK HB
            generalize hmine : farS (zr, zi) hs = mine at HLE ⊢
            clear hmine
            go_wp2_with fail
            go_loopg [13] n (fun g v13 wq => ∃ j : Nat, v13 = .int .i64 (j : Int) ∧ j + g = n ∧ Hid (Blk wq w3.heap.size (tkC lf n) 4) ∧ Hid (Below w3.heap.size w3 wq))
            case atStart => exact ⟨0, rfl, by omega, HTM, HSM⟩
            case round =>
              clear HTM HSM
              obtain ⟨j, rfl, hj, HTQ, HBQ⟩ := hrel
              rename World => wq
              have HJ := Lib.hid hj
              by_cases hjl : j < n
              · have s1 : decide ((j : Int) < (n : Int)) = true := decide_eq_true (by omega)
                have s1n : decide (j < n) = true := decide_eq_true hjl
                have HJL := Lib.hid hjl
                obtain ⟨⟨uid, hs2⟩, ht2⟩ : ∃ t, ts[j]? = some t := ⟨ts[j]'(by rw [HTSL.out]; exact hjl), List.getElem?_eq_getElem _⟩
                obtain ⟨gt2, qt2, mt2, kt2, e2, hgt2, hu0, hu1, huh⟩ := HT3.out.at' j _ ht2
                cases e2
                have S1 : Hid (Below w3.heap.size w3 wq.drew) := Lib.hid (below_drewN HBQ.out 1)
                have A1 : ∀ X, Below w3.heap.size w3 X → X.cell? ⟨gz, k, none⟩ = some (.complex .f64 zr zi) := fun X h => (h.cell (p := ⟨gz, k, none⟩) hgz).trans (by
                  obtain ⟨gz', e', _, hcz⟩ := HZ3.out.at' (by have := HLT.out; omega)
                  cases e'
                  exact HZC.out)
                have A2 : ∀ X, Below w3.heap.size w3 X → X.cell? ⟨gt, j * 2, none⟩ = some (.int .i64 uid) := fun X h => (h.cell (p := ⟨gt, j * 2, none⟩) hgt).trans hu0
                have A3 : ∀ X, Below w3.heap.size w3 X → X.cell? ⟨gt, j * 2 + 1, none⟩ = some (.slice qt2 mt2 kt2) := fun X h => (h.cell (p := ⟨gt, j * 2 + 1, none⟩) hgt).trans hu1
                have HFX : Hid (∀ X, Below w3.heap.size w3 X → Calls Try.prog 9 #[.agg #[.int .i64 uid, .slice qt2 mt2 kt2], .complex .f64 zr zi] X fun e w' => e = .returned (.int .i64 (farS (zr, zi) hs2)) ∧ Below X.heap.size X w') := Lib.hid fun X h => far_c uid qt2 mt2 kt2 hs2 (zr, zi) X (huh.below h (Nat.le_refl _))
                have hle := HLE.out j _ ht2
                have hl0 := farS_lo (zr, zi) hs2
                have HCT := Lib.hid ((HTQ.out.cell j).trans (tkC_get lf hjl))
                have HTQ1 := Lib.hid (HTQ.out.drewN 1)
                have ja : ((j : Int)).toNat = j := by omega
                have jp : (0 : Int) ≤ (j : Int) := by omega
                have jz : (j : Int) < (n : Int) := by omega
                have kaa : ((k : Int)).toNat = k := by omega
                dsimp only at hle
                have HHL := Lib.hid hle
                have HKB2 : Hid (j + 1 < 8796093022209) := Lib.hid (by have := HNB.out; omega)
                clear hu0 hu1 huh hle ht2 hjl hj hgt2 hl0
                go_upto_region 22 with (fail)
                go_region_held3 (fun X => Below w3.heap.size w3 X)
                  (with_reducible first | exact S1.out | assumption)
                  (first
                    | (go_at_call 9; (with_reducible refine (HFX.out _ (by assumption)).mono ?_); rintro _ wm2 ⟨rfl, hb⟩; have hsm2 := HKX.out _ _ (by assumption) hb; have HBM2 := Lib.hid hb; clear hb))
                have HTM2 := Lib.hid (HTQ1.out.below HBM2.out HTQ.out.lt)
                have HSM2 := Lib.hid hsm2
                have hct := HCT.out
                have c0 : wm2.cell? ⟨w3.heap.size, j, none⟩ = some (.bool (decide (j ∉ lf))) := (HTM2.out.cell j).trans (tkC_get lf HJL.out)
                clear A1 A2 A3 HFX S1 hsm2 HBM2 hct HCT HTQ HTQ1 HBQ
                generalize farS (zr, zi) hs2 = d at HHL ⊢
                by_cases hjm : j ∈ lf
                · have e0 : decide (j ∉ lf) = false := decide_eq_false (by simpa using hjm)
                  rw [e0] at c0
                  by_cases hd : 0 ≤ d
                  · obtain ⟨h1, h2⟩ := HHL.out hjm hd
                    have u0 : decide (0 ≤ d) = true := decide_eq_true hd
                    have u1 : decide (mine < 0) = false := decide_eq_false (by omega)
                    have u2 : decide (d < mine) = false := decide_eq_false (by omega)
                    have kw := HKB2.out
                    clear hjm e0 hd h1 h2
                    go_wp2_with fail
                    clear kw
                    go_roundg (n - (j + 1))
                    case measure => have := HJ.out; have := HJL.out; omega
                    case rel => exact ⟨j + 1, by first | rfl | go_num, by have := HJ.out; have := HJL.out; omega, HTM2, HSM2⟩
                  · have u0 : decide (0 ≤ d) = false := decide_eq_false hd
                    have kw := HKB2.out
                    clear hjm e0 hd
                    go_wp2_with fail
                    clear kw
                    go_roundg (n - (j + 1))
                    case measure => have := HJ.out; have := HJL.out; omega
                    case rel => exact ⟨j + 1, by first | rfl | go_num, by have := HJ.out; have := HJL.out; omega, HTM2, HSM2⟩
                · have e0 : decide (j ∉ lf) = true := decide_eq_true hjm
                  rw [e0] at c0
                  have kw := HKB2.out
                  clear hjm e0
                  go_wp2_with fail
                  clear kw
                  go_roundg (n - (j + 1))
                  case measure => have := HJ.out; have := HJL.out; omega
                  case rel => exact ⟨j + 1, by first | rfl | go_num, by have := HJ.out; have := HJL.out; omega, HTM2, HSM2⟩
              · have s1 : decide ((j : Int) < (n : Int)) = false := decide_eq_false (by omega)
                have s1n : decide (j < n) = false := decide_eq_false hjl
                have k1 : wq.cell? ⟨go, k, none⟩ = some (.int .i64 (i2 : Int)) := (HBQ.out.cell (p := ⟨go, k, none⟩) hgl).trans HXC.out
                have cq : wq.cell? ⟨w3.heap.size, i2, none⟩ = some (.bool (decide (i2 ∉ lf))) := (HTQ.out.cell i2).trans (tkC_get lf HTIN.out)
                have fq := HTQ.out.frozen i2
                have HT9 := Lib.hid (HTQ.out.set i2 (.bool true))
                rw [tkC_take HOK.out.nd n i2 HTIN.out] at HT9
                have HB9 := Lib.hid (HBQ.out.setCell (p := ⟨w3.heap.size, i2, none⟩) (Nat.le_refl _) (.bool true))
                have kw := HKB.out
                have kw2 : nn + 1 < 8796093022209 := by have := HNE.out; have := HNB.out; omega
                clear hjl hj
                go_wp2_with fail
                clear kw kw2
                go_roundg (m - (k + 1))
                case measure => have := HK.out; have := HLT.out; omega
                case rel => exact ⟨k + 1, nn + 1, by first | rfl | go_num, by have := HK.out; have := HLT.out; omega, by first | rfl | go_num, by rw [HNX.out]; exact HNE.out, by rw [HNX.out]; exact HT9, HB9⟩
        · have t1 : decide ((k : Int) < (m : Int)) = false := decide_eq_false (by omega)
          have t1n : decide (k < m) = false := decide_eq_false hlt
          have hwl := HWL.out
          have hmm : ((m : Int) == (m : Int)) = true := by simp
          clear hlt hk hnn hwl
          go_wp2_with fail
          go_ret
          exact ⟨rfl, below_then HB3.out HB3.out.size HB.out⟩
end Go.Proofs.Ytmggalbdlabcmaa
