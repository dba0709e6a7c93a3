/- PlanShares: how far each task is, and who takes which: the walk. -/
import Derived.Test.YtmggalbdlabcmaaPlanSpk
import Derived.Test.YtmggalbdlabcmaaView
import Derived.Test.YtmggalbdlabcmaaPlanDoc
import Derived.Deep.CutBlock
namespace Go.Proofs.Ytmggalbdlabcmaa
open Go.RowKit Go.Lib St Fl Go.Sort
set_option linter.unusedVariables false
set_option linter.unusedSimpArgs false
theorem shStep_pre (ts : List (Int × List Spot)) (s : List Int × List Nat) (z : Spot) : ∃ x, (shStep ts s z).1 = s.1 ++ [x] := by
  unfold shStep
  split
  · exact ⟨_, rfl⟩
  · exact ⟨_, rfl⟩
theorem share_pre (ts : List (Int × List Spot)) : ∀ (zs : List Spot) (s : List Int × List Nat), s.1 <+: (zs.foldl (shStep ts) s).1
  | [], s => List.prefix_refl _
  | z :: zs, s => by
    obtain ⟨x, hx⟩ := shStep_pre ts s z
    exact (List.IsPrefix.trans ⟨[x], hx.symm⟩ (share_pre ts zs (shStep ts s z)))
/-- what worker k is given -/
theorem share_at {ts : List (Int × List Spot)} {zs : List Spot} {k : Nat} {z : Spot} (hz : zs[k]? = some z) : ∃ x, (shareP ts zs).1[k]? = some x ∧ shareP ts (zs.take (k + 1)) = ((shareP ts (zs.take k)).1 ++ [x], (shareP ts (zs.take (k + 1))).2) ∧ shareP ts (zs.take (k + 1)) = shStep ts (shareP ts (zs.take k)) z := by
  have hk := (List.getElem?_eq_some_iff.1 hz).1
  have e1 : zs.take (k + 1) = zs.take k ++ [z] := by rw [List.take_add_one, hz]; rfl
  have e2 := shareP_snoc ts (zs.take k) z
  rw [← e1] at e2
  obtain ⟨x, hx⟩ := shStep_pre ts (shareP ts (zs.take k)) z
  have hpre : (shareP ts (zs.take (k + 1))).1 <+: (shareP ts zs).1 := by
    conv => rhs; rw [← List.take_append_drop (k + 1) zs]
    unfold shareP
    rw [List.foldl_append]
    exact share_pre ts _ _
  rw [e2, hx] at hpre
  have hl := (shareP_ok ts (zs.take k)).len
  rw [show (zs.take k).length = k by rw [List.length_take]; omega] at hl
  obtain ⟨r, hr⟩ := hpre
  refine ⟨x, ?_, ?_, e2⟩
  · rw [← hr, List.append_assoc, List.getElem?_append_right (by omega), hl, Nat.sub_self]
    rfl
  · rw [e2]
    exact Prod.ext hx rfl
def tkC (lf : List Nat) (n : Nat) : List Value := (List.range n).map fun i => .bool (decide (i ∉ lf))
theorem tkC_get (lf : List Nat) {n i : Nat} (hi : i < n) : (tkC lf n)[i]? = some (.bool (decide (i ∉ lf))) := by
  unfold tkC
  rw [List.getElem?_map, List.getElem?_range hi]; rfl
theorem tkC_start (n : Nat) : tkC (List.range n) n = List.replicate n (.bool false) := by
  apply List.ext_getElem?
  intro i
  by_cases hi : i < n
  · rw [tkC_get _ hi, List.getElem?_replicate, if_pos hi, decide_eq_false (by simp [hi])]
  · rw [List.getElem?_eq_none (by unfold tkC; simp; omega), List.getElem?_eq_none (by simp; omega)]
theorem tkC_take {lf : List Nat} (hn : lf.Nodup) (n i : Nat) (hi : i < n) : (tkC lf n).set i (.bool true) = tkC (lf.erase i) n := by
  apply List.ext_getElem?
  intro j
  by_cases hj : j < n
  · rw [tkC_get _ hj, List.getElem?_set]
    by_cases e : i = j
    · subst e
      rw [if_pos rfl, if_pos (by unfold tkC; simpa using hi), decide_eq_true (by rw [hn.mem_erase_iff]; simp)]
    · rw [if_neg e, tkC_get _ hj]
      have : (j ∉ lf) ↔ (j ∉ lf.erase i) := by rw [hn.mem_erase_iff]; simp [Ne.symm e]
      rw [decide_eq_decide.2 this]
  · rw [List.getElem?_eq_none (by unfold tkC; simp; omega), List.getElem?_eq_none (by unfold tkC; simp; omega)]
theorem cs_info : (Try.prog.info? 26).map (fun i => (i.zero, i.size, i.bytes)) = some (some (.slice none 0 0), 1, 24) := by kernel_rfl
noncomputable def dcs (xs : List (List (Int × Int))) : List (List Spot) := xs.map fun ps => ps.map spotOf
theorem dcs_len (xs : List (List (Int × Int))) : (dcs xs).length = xs.length := by simp [dcs]
theorem dcs_next {xs : List (List (Int × Int))} {i : Nat} {ps : List (Int × Int)} (h : xs[i]? = some ps) : dcs (xs.take (i + 1)) = dcs (xs.take i) ++ [ps.map spotOf] := by
  unfold dcs
  rw [List.take_add_one, h, List.map_append]
  rfl
theorem tsk_dcs {xs : List (List (Int × Int))} {i : Nat} {t : Int × List Spot} (h : (tsk xs)[i]? = some t) : t.1 = (i : Int) ∧ (dcs xs)[i]? = some t.2 := by
  unfold tsk at h
  rw [List.getElem?_mapIdx] at h
  obtain ⟨ps, hps, rfl⟩ := Option.map_eq_some_iff.1 h
  exact ⟨rfl, by unfold dcs; rw [List.getElem?_map, hps]; rfl⟩
theorem dcs_hs {xs : List (List (Int × Int))} {i : Nat} {hs : List Spot} (h : (dcs xs)[i]? = some hs) : hsOf (tsk xs) i = hs := by
  unfold dcs at h
  rw [List.getElem?_map] at h
  obtain ⟨ps, hps, rfl⟩ := Option.map_eq_some_iff.1 h
  exact hsOf_at (t := ((i : Int), ps.map spotOf)) (by unfold tsk; rw [List.getElem?_mapIdx, hps]; rfl)
set_option maxRecDepth 20000 in
set_option maxHeartbeats 8000000 in
theorem planShares_walk (W : World) (sa : Option Addr) (n sc : Nat) (xs : List (List (Int × Int))) (hR : RPairss W [.slice sa n sc] xs) (sb : Option Addr) (m sd : Nat) (ws : List (Int × Int)) (hW : RPairs W [.slice sb m sd] ws) :
    Calls Try.prog 4 #[.slice sa n sc, .slice sb m sd] W fun e w' => e = .returned (.bool true) ∧ Below W.heap.size W w' := by
  have HWS := Lib.hid hW
  have hwl : ws.length = m ∧ m ≤ 8796093021952 := by
    obtain ⟨a', n', c', hv, h1, h2, h3, _⟩ := hW
    cases hv
    omega
  have HWL := Lib.hid hwl
  obtain ⟨a', n', c', hv, hn, hnc, hcb, hcm, hno, hel⟩ := hR
  cases hv
  have HN := Lib.hid hn
  have HNB : Hid (n ≤ 5864062014635) := Lib.hid (by omega)
  have HEL := Lib.hid hel
  clear hW hwl hn hnc hcb hcm hno hel
  go_enter Try.func4, Try.ntmps4
  go_wp2_with fail
  refine (plSpeaks_any W).mono ?_
  rintro _ w1 ⟨rfl, hb1⟩
  have HB1 := Lib.hid hb1
  clear hb1
  go_wp2_with fail
  go_loopg [5, 6, 7] n (fun g v5 v6 v7 wr => ∃ (i : Nat) (us us2 : List Value), v7 = .int .i64 (i : Int) ∧ i + g = n ∧ Hid (InAt wr W.heap.size v5 us (tsk (xs.take i))) ∧ Hid (DcAt wr W.heap.size v6 us2 (dcs (xs.take i))) ∧ Hid (Below W.heap.size W wr))
  case atStart => exact ⟨0, [], [], rfl, by omega, Lib.hid (InAt.nil _ _), Lib.hid (DcAt.nil _ _), HB1⟩
  case round =>
    obtain ⟨i, us, us2, rfl, hi, HIN, HDC, HB⟩ := hrel
    have HI := Lib.hid hi
    clear HB1
    by_cases hlt : i < n
    · have t1 : decide ((i : Int) < (n : Int)) = true := decide_eq_true (by omega)
      have t1n : decide (i < n) = true := decide_eq_true hlt
      have HLT := Lib.hid hlt
      obtain ⟨ps, hp⟩ : ∃ ps, xs[i]? = some ps := ⟨xs[i]'(by rw [HN.out]; exact hlt), List.getElem?_eq_getElem _⟩
      obtain ⟨b, off, rfl, hbW, hel⟩ := HEL.out (by omega)
      obtain ⟨es, _, hes, hRP⟩ := hel i ps hp
      obtain ⟨pa, pn, pc, rfl⟩ : ∃ pa pn pc, es = [.slice pa pn pc] := by
        obtain ⟨a, n, c, e, _⟩ := hRP
        exact ⟨a, n, c, e⟩
      have hpl : ps.length = pn ∧ pn ≤ 8796093021952 := by
        obtain ⟨a, n, c, e, h1, h2, h3, _⟩ := hRP
        cases e
        omega
      have k0 : wr.cell? ⟨b, off + i, none⟩ = some (.slice pa pn pc) := by
        have := hes 0 _ rfl
        rw [Nat.mul_one, Nat.add_zero] at this
        exact (HB.out.cell (p := ⟨b, off + i, none⟩) hbW).trans this
      have HRP := Lib.hid hRP
      have HPL := Lib.hid hpl
      have HTN := Lib.hid (tsk_next hp)
      have htl : (tsk (xs.take i)).length = i := by rw [tsk_len, List.length_take, HN.out]; omega
      have HTL := Lib.hid htl
      have HDN := Lib.hid (dcs_next hp)
      have HDL : Hid ((dcs (xs.take i)).length = i) := Lib.hid (by rw [dcs_len, List.length_take, HN.out]; omega)
      have kw : i + 1 < 8796093022209 := by have := HNB.out; omega
      have ia : ((i : Int)).toNat = i := by omega
      have ip : (0 : Int) ≤ (i : Int) := by omega
      have iz : (i : Int) < (n : Int) := by omega
      clear hp hel hes hRP hpl htl hlt hi
      go_wp2_with fail
      refine (points_c ps pa pn pc wr (HRP.out.below HB.out (Nat.le_refl _))).mono ?_
      rintro _ w2 ⟨u, rfl, hb2, hou⟩
      have HU : Hid (w2.ownsRow W.heap.size 31 1 u ps.length ((ps.map spotOf).map spotC)) := Lib.hid (by rw [List.map_map]; exact own_mono hou HB.out.size)
      have HB2 := Lib.hid (below_then HB.out HB.out.size hb2)
      have HIN2 := Lib.hid (HIN.out.below hb2 (Nat.le_refl _))
      have HRW := Lib.hid (show w2.ownsRow W.heap.size 29 2 _ i (List.zipWith taskRow us (tsk (xs.take i))).flatten from HTL.out ▸ HIN2.out.row)
      obtain ⟨qu, cu, rfl⟩ := own_slice HU.out
      have HDC2 := Lib.hid (HDC.out.below hb2 (Nat.le_refl _))
      have j0 : w2.cell? ⟨b, off + i, none⟩ = some (.slice pa pn pc) := (hb2.cell (p := ⟨b, off + i, none⟩) (Nat.lt_of_lt_of_le hbW HB.out.size)).trans k0
      clear hb2 hou k0 HIN HB HDC
      go_wp2_with (first
        | (at_builtin
           refine wpList_appw rfl _ _ 24 rfl W.heap.size 29 _ 2 32 Try.underlying24 ptask_info rfl (by decide) _ i _ rfl HRW.out [.int .i64 (i : Int), .slice qu ps.length cu] _ 1 1 rfl rfl rfl (by have := HNB.out; have := HLT.out; unfold maxLen; omega) (by have := HNB.out; have := HLT.out; omega) HB2.out.size ?_
           intro v' w3 hO hG
           have HB3 := Lib.hid (below_row HRW.out hG.out HB2.out (Nat.le_refl _) HB2.out.size)
           have HIN3 := Lib.hid (HIN2.out.push (t := ((i : Int), ps.map spotOf)) (by rw [List.length_map]; exact HU.out) (by rw [List.length_map]; have := HPL.out; omega) (by rw [HTL.out]; exact hO.out) hG.out)
           rw [← HTN.out] at HIN3
           have HDC3 := Lib.hid (HDC2.out.grownOf HRW.out hG.out (by decide) (by decide))
           have j1 : w3.cell? ⟨b, off + i, none⟩ = some (.slice pa pn pc) := (HB3.out.cell (p := ⟨b, off + i, none⟩) hbW).trans ((HB2.out.cell (p := ⟨b, off + i, none⟩) hbW).symm.trans j0)
           clear hO hG j0 HRW HU HIN2 HDC2)
        | (go_at_call 7
           with_reducible refine (points_c ps pa pn pc _ (HRP.out.below HB3.out (Nat.le_refl _))).mono ?_
           rintro _ w4 ⟨u4, rfl, hb4, hou4⟩
           have HU4 : Hid (w4.ownsRow W.heap.size 31 1 u4 ps.length ((ps.map spotOf).map spotC)) := Lib.hid (by rw [List.map_map]; exact own_mono hou4 HB3.out.size)
           have HB4 := Lib.hid (below_then HB3.out HB3.out.size hb4)
           have HIN4 := Lib.hid (HIN3.out.below hb4 (Nat.le_refl _))
           have HDC4 := Lib.hid (HDC3.out.below hb4 (Nat.le_refl _))
           have HRD := Lib.hid (show w4.ownsRow W.heap.size 26 1 _ i us2 from HDL.out ▸ HDC4.out.row)
           obtain ⟨qu4, cu4, rfl⟩ := own_slice HU4.out
           clear hb4 hou4)
        | (at_builtin
           refine wpList_appw rfl _ _ 35 rfl W.heap.size 26 _ 1 24 Try.underlying35 cs_info rfl (by decide) _ i _ rfl HRD.out [.slice qu4 ps.length cu4] _ 1 1 rfl rfl rfl (by have := HNB.out; have := HLT.out; unfold maxLen; omega) (by have := HNB.out; have := HLT.out; omega) HB4.out.size ?_
           intro v'' w5 hO hG
           have HB5 := Lib.hid (below_row HRD.out hG.out HB4.out (Nat.le_refl _) HB4.out.size)
           have HDC5 := Lib.hid (HDC4.out.push (hs := ps.map spotOf) (by rw [List.length_map]; exact HU4.out) (by rw [List.length_map]; have := HPL.out; omega) (by rw [HDL.out]; exact hO.out) hG.out)
           rw [← HDN.out] at HDC5
           have HIN5 := Lib.hid (HIN4.out.grownOf HRD.out hG.out (by decide) (by decide))))
      clear kw
      go_roundg (n - (i + 1))
      case measure => have := HI.out; have := HLT.out; omega
      case rel => exact ⟨i + 1, us ++ [.slice qu ps.length cu], us2 ++ [.slice qu4 ps.length cu4], by first | rfl | go_num, by have := HI.out; have := HLT.out; omega, HIN5, HDC5, HB5⟩
    · have t1 : decide ((i : Int) < (n : Int)) = false := decide_eq_false (by omega)
      have t1n : decide (i < n) = false := decide_eq_false hlt
      have htk : xs.take i = xs := List.take_of_length_le (by have := HN.out; omega)
      rw [htk] at HIN HDC
      obtain ⟨pd, cd, hvd, hda⟩ := HDC.out.doc (by rw [dcs_len]; have := HNB.out; have := HN.out; omega)
      rw [dcs_len, HN.out] at hvd hda
      have HDA := Lib.hid hda
      obtain ⟨pi, ci, hvi, hta⟩ := HIN.out.tasks (by rw [tsk_len]; have := HNB.out; have := HN.out; omega)
      rw [tsk_len, HN.out] at hvi hta
      have HTA := Lib.hid hta
      have HTSL : Hid ((tsk xs).length = n) := Lib.hid (by rw [tsk_len, HN.out])
      have HTD : Hid (∀ (i : Nat) (t : Int × List Spot), (tsk xs)[i]? = some t → t.1 = (i : Int) ∧ (dcs xs)[i]? = some t.2) := Lib.hid fun i t h => tsk_dcs h
      have HDH : Hid (∀ (i : Nat) (hs : List Spot), (dcs xs)[i]? = some hs → hsOf (tsk xs) i = hs) := Lib.hid fun i hs h => dcs_hs h
      have HSF : Hid (∀ (i : Nat) (hs : List Spot) (j : Nat) (h : Spot), (dcs xs)[i]? = some hs → hs[j]? = some h → D.order h.1 h.1 = some .eq ∧ D.order h.2 h.2 = some .eq) := Lib.hid fun i hs j h h1 h2 => by
        unfold dcs at h1
        rw [List.getElem?_map] at h1
        obtain ⟨ps, _, rfl⟩ := Option.map_eq_some_iff.1 h1
        rw [List.getElem?_map] at h2
        obtain ⟨p, _, rfl⟩ := Option.map_eq_some_iff.1 h2
        exact ⟨fw_self _, fw_self _⟩
      generalize tsk xs = ts at HTA HTSL HTD HDH
      generalize dcs xs = dd at HDA HTD HDH HSF
      clear hlt hi htk hta HIN HDC hda
      subst hvi hvd
      go_wp2_with fail
      refine (points_c ws sb m sd wr (HWS.out.below HB.out (Nat.le_refl _))).mono ?_
      rintro _ w2 ⟨u, rfl, hb2, hou⟩
      have hou2 : w2.ownsRow wr.heap.size 31 1 u (ws.map spotOf).length ((ws.map spotOf).map spotC) := by rw [List.map_map, List.length_map]; exact hou
      obtain ⟨pz, cz, rfl, hza⟩ := hold_of_own hou2 (by rw [List.length_map]; have := HWL.out; omega)
      have HB2 := Lib.hid (below_then HB.out HB.out.size hb2)
      have HT2 := Lib.hid (HTA.out.below hb2 (Nat.le_refl _))
      have HD2 := Lib.hid (HDA.out.below hb2 (Nat.le_refl _))
      have HZL : Hid ((ws.map spotOf).length = m) := Lib.hid (by rw [List.length_map]; exact HWL.out.1)
      generalize ws.map spotOf = zs at hza HZL
      rw [HZL.out] at hza
      have HZ2 := Lib.hid hza
      have hzz := HZL.out
      rw [hzz]
      clear hou hou2 hza hb2 hzz HTA HDA
      go_wp2_with fail
      refine (share_c pi n ci ts pz m cz zs w2 HT2.out (by have := HNB.out; omega) HZ2.out (by have := HWL.out; omega)).mono ?_
      rintro _ w3 ⟨vo, rfl, hoo, hb3⟩
      have HB3 := Lib.hid (below_then HB2.out HB2.out.size hb3)
      have HT3 := Lib.hid (HT2.out.below hb3 (Nat.le_refl _))
      have HD3 := Lib.hid (HD2.out.below hb3 (Nat.le_refl _))
      have HZ3 := Lib.hid (HZ2.out.below hb3 (Nat.le_refl _))
      obtain ⟨po, co, rfl⟩ := own_slice hoo
      have HRG : Hid (∃ g, (0 < m → po = some ⟨g, 0, none⟩ ∧ g < w3.heap.size ∧ ∀ (k : Nat) (x : Int), (shareP ts zs).1[k]? = some x → w3.cell? ⟨g, k, none⟩ = some (.int .i64 x))) := Lib.hid (by
        by_cases h0 : 0 < m
        · obtain ⟨g, cap, e, _, hgl, hC⟩ := own_some hoo h0
          cases e
          exact ⟨g, fun _ => ⟨rfl, hgl, fun a i hi => (hC.get (j := a) (by rw [List.getElem?_map, hi]; rfl)).1⟩⟩
        · exact ⟨0, fun e => absurd e h0⟩)
      have hmk := fun w => run_make1 (P := Try.prog) 38 4 (.bool false) 1 Try.underlying38 (by kernel_rfl) rfl n (by have := HNB.out; omega) (by have := HNB.out; omega) w
      clear hoo hb3 HT2 HZ2 HB2 HD2
      go_wp2_with fail
      have M0 := Lib.hid ((Blk.make w3 n (.bool false) 4).alloc (.cells (rep n (.bool false)) 4))
      have M1 := Lib.hid (Blk.make (w3.alloc (.cells (rep n (.bool false)) 4)) n (.bool false) 4)
      rw [World.size_alloc] at M1
      rw [← tkC_start] at M0
      have MB := Lib.hid (((Below.refl w3.heap.size w3).alloc (Nat.le_refl _) (.cells (rep n (.bool false)) 4)).alloc (by rw [World.size_alloc]; omega) (.cells (rep n (.bool false)) 4))
      generalize (w3.alloc (.cells (rep n (.bool false)) 4)).alloc (.cells (rep n (.bool false)) 4) = w4 at M0 M1 MB ⊢
      have HS0 : Hid ((shareP ts (zs.take 0)).2 = List.range n) := Lib.hid (by unfold shareP; simp [HTSL.out])
      have HLF : Hid (∀ zs, (shareP ts zs).2 = (List.range n).filter fun i => decide (i ∈ (shareP ts zs).2)) := Lib.hid fun zs => by
        have := lf_filter ts zs
        rw [HTSL.out] at this
        exact this
      clear hmk t1 t1n HI HB
      go_loopg [12] m (fun g vk wr => ∃ k : Nat, vk = .int .i64 (k : Int) ∧ k + g = m ∧ Hid (Blk wr w3.heap.size (tkC (shareP ts (zs.take k)).2 n) 4) ∧ Hid (Blk wr (w3.heap.size + 1) (List.replicate n (.bool false)) 4) ∧ Hid (Below w3.heap.size w3 wr))
      case atStart => exact ⟨0, rfl, by omega, by rw [HS0.out]; exact M0, M1, MB⟩
      case round =>
        clear M0 M1 MB HS0
        obtain ⟨k, rfl, hk, HTK, HNO, HB⟩ := hrel
        have HK := Lib.hid hk
        by_cases hlt : k < m
        · have t1 : decide ((k : Int) < (m : Int)) = true := decide_eq_true (by omega)
          have t1n : decide (k < m) = true := decide_eq_true hlt
          have HLT := Lib.hid hlt
          obtain ⟨⟨zr, zi⟩, hz⟩ : ∃ z, zs[k]? = some z := ⟨zs[k]'(by rw [HZL.out]; exact hlt), List.getElem?_eq_getElem _⟩
          obtain ⟨x, hx, _, hst⟩ := share_at (ts := ts) hz
          obtain ⟨go, hgo⟩ := HRG.out
          obtain ⟨rfl, hgl, hgc⟩ := hgo (by omega)
          have hok := shareP_ok ts (zs.take k)
          have hlf := HLF.out (zs.take k)
          have hpre : (shareP ts (zs.take k)).1 ++ [x] = (shareP ts (zs.take (k + 1))).1 := by
            obtain ⟨x2, h1, h2, _⟩ := share_at (ts := ts) hz
            rw [hx] at h1
            obtain rfl := Option.some.inj h1
            rw [h2]
          rw [hst] at hpre
          have HNX := Lib.hid hst
          have HOK := Lib.hid hok
          have HXC : Hid (∀ X, Below w3.heap.size w3 X → X.cell? ⟨go, k, none⟩ = some (.int .i64 x)) := Lib.hid fun X h => (h.cell (p := ⟨go, k, none⟩) hgl).trans (hgc k x hx)
          generalize shareP ts (zs.take k) = s at hpre HNX HOK HTK hlf
          obtain ⟨os, lf⟩ := s
          dsimp only at hpre HTK hlf
          have HXN : Hid (x = numOf (chooseF (zr, zi) (hsOf ts) lf)) := Lib.hid (share_num hpre.symm)
          have HFL := Lib.hid (free_lf hlf)
          have ka : ((k : Int)).toNat = k := by omega
          have kp : (0 : Int) ≤ (k : Int) := by omega
          have kz : (k : Int) < (m : Int) := by omega
          have HKB : Hid (k + 1 < 8796093022209) := Lib.hid (by have := HWL.out; omega)
          obtain ⟨gz, rfl, hgz, hcz⟩ := HZ3.out.at' (by omega)
          have HZC : Hid (∀ X, Below w3.heap.size w3 X → X.cell? ⟨gz, k, none⟩ = some (.complex .f64 zr zi)) := Lib.hid fun X h => (h.cell (p := ⟨gz, k, none⟩) hgz).trans (hcz k _ hz)
          have HKX : Hid (∀ X Y, Below w3.heap.size w3 X → Below X.heap.size X Y → Below w3.heap.size w3 Y) := Lib.hid fun X Y h k => below_then h h.size k
          clear hgo hgc hx hst hok hlf hpre hz hcz hlt hk HRG
          go_wp2_with fail
          go_loopg [13] n (fun g v13 wq => ∃ j : Nat, v13 = .int .i64 (j : Int) ∧ j + g = n ∧ Hid (Below wr.heap.size wr wq))
          case atStart => exact ⟨0, rfl, by omega, Lib.hid (Below.refl _ _)⟩
          case round =>
            obtain ⟨j, rfl, hj, HBQ⟩ := hrel
            rename World => wq
            have HJ := Lib.hid hj
            have HB3Q := Lib.hid (below_then HB.out HB.out.size HBQ.out)
            by_cases hjl : j < n
            · have s1 : decide ((j : Int) < (n : Int)) = true := decide_eq_true (by omega)
              have s1n : decide (j < n) = true := decide_eq_true hjl
              have HJL := Lib.hid hjl
              obtain ⟨⟨uid, hs2⟩, ht2⟩ : ∃ t, ts[j]? = some t := ⟨ts[j]'(by rw [HTSL.out]; exact hjl), List.getElem?_eq_getElem _⟩
              obtain ⟨gt2, qt2, mt2, kt2, rfl, hgt2, hu0, hu1, huh⟩ := HT3.out.at' j _ ht2
              obtain ⟨_, hdj⟩ := HTD.out j _ ht2
              obtain ⟨gd2, qd2, md2, kd2, rfl, hgd2, hd0, hdh⟩ := HD3.out.at' j _ hdj
              dsimp only at hu0 hu1 huh hdh
              have S1 : Hid (Below w3.heap.size w3 wq.drew) := Lib.hid (below_drewN HB3Q.out 1)
              have A1 : ∀ X, Below w3.heap.size w3 X → X.cell? ⟨gz, k, none⟩ = some (.complex .f64 zr zi) := HZC.out
              have A2 : ∀ X, Below w3.heap.size w3 X → X.cell? ⟨gt2, j * 2, none⟩ = some (.int .i64 uid) := fun X h => (h.cell (p := ⟨gt2, j * 2, none⟩) hgt2).trans hu0
              have A3 : ∀ X, Below w3.heap.size w3 X → X.cell? ⟨gt2, j * 2 + 1, none⟩ = some (.slice qt2 mt2 kt2) := fun X h => (h.cell (p := ⟨gt2, j * 2 + 1, none⟩) hgt2).trans hu1
              have A4 : ∀ X, Below w3.heap.size w3 X → X.cell? ⟨gd2, j, none⟩ = some (.slice qd2 md2 kd2) := fun X h => (h.cell (p := ⟨gd2, j, none⟩) hgd2).trans hd0
              have HFX : Hid (∀ X, Below w3.heap.size w3 X → Calls Try.prog 9 #[.agg #[.int .i64 uid, .slice qt2 mt2 kt2], .complex .f64 zr zi] X fun e w' => e = .returned (.int .i64 (farS (zr, zi) hs2)) ∧ Below X.heap.size X w') := Lib.hid fun X h => far_c uid qt2 mt2 kt2 hs2 (zr, zi) X (huh.below h (Nat.le_refl _))
              have HRX : Hid (∀ X, Below w3.heap.size w3 X → Calls Try.prog 11 #[.slice qd2 md2 kd2, .complex .f64 zr zi] X fun e w' => e = .returned (.int .i64 (farS (zr, zi) hs2)) ∧ X = w') := Lib.hid fun X h => rfar_c qd2 md2 kd2 hs2 (zr, zi) X (hdh.below h (Nat.le_refl _))
              have hff : (farS (zr, zi) hs2 != farS (zr, zi) hs2) = false := by simp
              generalize farS (zr, zi) hs2 = fz at HFX HRX hff
              have HBQ1 : Hid (Below wr.heap.size wr wq.drew) := Lib.hid (below_drewN HBQ.out 1)
              have ja : ((j : Int)).toNat = j := by omega
              have jp : (0 : Int) ≤ (j : Int) := by omega
              have jz : (j : Int) < (n : Int) := by omega
              have kw : j + 1 < 8796093022209 := by have := HNB.out; omega
              have HKB2 := Lib.hid kw
              clear hu0 hu1 huh ht2 hdj hd0 hdh hjl hj hgt2 hgd2 kw
              go_upto_region 22 with (fail)
              go_region_held3 (fun X => Below w3.heap.size w3 X)
                (with_reducible first | exact S1.out | assumption)
                (first
                  | (go_at_call 9; (with_reducible refine (HFX.out _ (by assumption)).mono ?_); rintro _ wm2 ⟨rfl, hb⟩; have hsm2 := HKX.out _ _ (by assumption) hb; have HBM2 := Lib.hid hb; clear hb)
                  | (go_at_call 11; (with_reducible refine (HRX.out _ (by assumption)).mono ?_); rintro _ _ ⟨rfl, rfl⟩))
              have HBQ2 := Lib.hid (below_then HBQ1.out HBQ1.out.size HBM2.out)
              have kw := HKB2.out
              clear A1 A2 A3 A4 HFX HRX S1 hsm2 HBM2 HBQ1 HBQ
              go_wp2_with fail
              clear kw
              go_roundg (n - (j + 1))
              case measure => have := HJ.out; have := HJL.out; omega
              case rel => exact ⟨j + 1, by first | rfl | go_num, by have := HJ.out; have := HJL.out; omega, HBQ2⟩
            · have s1 : decide ((j : Int) < (n : Int)) = false := decide_eq_false (by omega)
              have s1n : decide (j < n) = false := decide_eq_false hjl
              have HTQ := Lib.hid (HTK.out.below HBQ.out HTK.out.lt)
              have HNQ := Lib.hid (HNO.out.below HBQ.out HNO.out.lt)
              clear hjl hj HTK HNO HB HBQ
              have HPKX : Hid (∀ X, Below wq.heap.size wq X → Calls Try.prog 8 #[.slice pi n ci, .complex .f64 zr zi] X fun e w' => e = .returned (.int .i64 (numOf (chooseF (zr, zi) (hsOf ts) (List.range n)))) ∧ Below X.heap.size X w') := Lib.hid fun X h => by
                have h1 := pick_c pi n ci ts (zr, zi) X (HT3.out.below (below_then HB3Q.out HB3Q.out.size h) (Nat.le_refl _))
                rw [pick_same, HTSL.out] at h1
                exact h1
              have HRNX : Hid (∀ X, Below wq.heap.size wq X → Calls Try.prog 12 #[.slice pd n cd, .slice (some ⟨w3.heap.size + 1, 0, none⟩) n n, .complex .f64 zr zi] X fun e w' => e = .returned (.int .i64 (numOf (chooseF (zr, zi) (hsOf ts) (List.range n)))) ∧ X = w') := Lib.hid fun X h => by
                have h1 := rpick_c pd n cd dd (w3.heap.size + 1) n n (fun _ => false) (zr, zi) X (HD3.out.below (below_then HB3Q.out HB3Q.out.size h) (Nat.le_refl _)) (hsOf ts) HDH.out rfl (fun i hi => by
                  rw [(HNQ.out.below h HNQ.out.lt).cell i, List.getElem?_replicate, if_pos hi])
                rw [free_none] at h1
                exact h1
              generalize hpv : numOf (chooseF (zr, zi) (hsOf ts) (List.range n)) = pv at HPKX HRNX
              have hpp : (pv != pv) = false := by simp
              have A1 : ∀ X, Below wq.heap.size wq X → X.cell? ⟨gz, k, none⟩ = some (.complex .f64 zr zi) := fun X h => HZC.out X (below_then HB3Q.out HB3Q.out.size h)
              have S1 : Hid (Below wq.heap.size wq wq.drew) := Lib.hid (below_drewN (Below.refl wq.heap.size wq) 1)
              have HKQ : Hid (∀ X Y, Below wq.heap.size wq X → Below X.heap.size X Y → Below wq.heap.size wq Y) := Lib.hid fun X Y h k => below_then h h.size k
              clear hpv
              go_upto_region 24 with (fail)
              go_region_held3 (fun X => Below wq.heap.size wq X)
                (with_reducible first | exact S1.out | assumption)
                (first
                  | (go_at_call 8; (with_reducible refine (HPKX.out _ (by assumption)).mono ?_); rintro _ wm2 ⟨rfl, hb⟩; have hsm2 := HKQ.out _ _ (by assumption) hb; clear hb)
                  | (go_at_call 12; (with_reducible refine (HRNX.out _ (by assumption)).mono ?_); rintro _ _ ⟨rfl, rfl⟩))
              have HT6 := Lib.hid (HTQ.out.below hsm2 HTQ.out.lt)
              have HN6 := Lib.hid (HNQ.out.below hsm2 HNQ.out.lt)
              have HB6 := Lib.hid (below_then HB3Q.out HB3Q.out.size hsm2)
              have a1 : wm2.cell? ⟨gz, k, none⟩ = some (.complex .f64 zr zi) := HZC.out wm2 HB6.out
              have a2 : wm2.cell? ⟨go, k, none⟩ = some (.int .i64 x) := HXC.out wm2 HB6.out
              have HRTX : Hid (Calls Try.prog 12 #[.slice pd n cd, .slice (some ⟨w3.heap.size, 0, none⟩) n n, .complex .f64 zr zi] wm2 fun e w' => e = .returned (.int .i64 x) ∧ wm2 = w') := Lib.hid (by
                have h1 := rpick_c pd n cd dd w3.heap.size n n (fun i => decide (i ∉ lf)) (zr, zi) wm2 (HD3.out.below HB6.out (Nat.le_refl _)) (hsOf ts) HDH.out rfl (fun i hi => by
                  rw [HT6.out.cell i, tkC_get lf hi])
                rw [HFL.out, ← HXN.out] at h1
                exact h1)
              have hxx : (x != x) = false := by simp
              have kw := HKB.out
              clear A1 S1 HKQ HPKX HRNX hsm2 HTQ HNQ HB3Q hpp
              rcases choose_is (lf.map fun i => (i, farS (zr, zi) (hsOf ts i))) with ⟨hch, hnil⟩ | ⟨⟨i, f⟩, hch, his⟩
              · have hst2 : shStep ts (os, lf) (zr, zi) = (os ++ [-1], lf) := by unfold shStep; dsimp only; rw [hch]
                rw [hst2] at HNX
                have hx1 := HXN.out
                unfold chooseF at hx1
                rw [hch] at hx1
                obtain rfl : x = -1 := hx1
                clear hch hnil hst2
                go_wp2_with fail
                refine HRTX.out.mono ?_
                rintro _ _ ⟨rfl, rfl⟩
                go_wp2_with fail
                clear kw
                go_roundg (m - (k + 1))
                case measure => have := HK.out; have := HLT.out; omega
                case rel => exact ⟨k + 1, by first | rfl | go_num, by have := HK.out; have := HLT.out; omega, by rw [HNX.out]; exact HT6, HN6, HB6⟩
              · have hst2 : shStep ts (os, lf) (zr, zi) = (os ++ [(i : Int)], lf.erase i) := by unfold shStep; dsimp only; rw [hch]
                rw [hst2] at HNX
                have hx1 := HXN.out
                unfold chooseF at hx1
                rw [hch] at hx1
                obtain rfl : x = (i : Int) := hx1
                obtain ⟨i2, hi2, e⟩ := List.mem_map.1 his.mem
                injection e with e1 e2
                subst e1
                have hin : i2 < n := by have := HOK.out.lt i2 hi2; rw [HTSL.out] at this; exact this
                have i2a : ((i2 : Int)).toNat = i2 := by omega
                have i2p : (0 : Int) ≤ (i2 : Int) := by omega
                have i2z : (i2 : Int) < (n : Int) := by omega
                have i2d : decide ((0 : Int) ≤ (i2 : Int)) = true := decide_eq_true i2p
                have cq : wm2.cell? ⟨w3.heap.size, i2, none⟩ = some (.bool (decide (i2 ∉ lf))) := (HT6.out.cell i2).trans (tkC_get lf hin)
                have fq := HT6.out.frozen i2
                have HT9 := Lib.hid (HT6.out.set i2 (.bool true))
                rw [tkC_take HOK.out.nd n i2 hin] at HT9
                have HN9 := Lib.hid (HN6.out.other ⟨w3.heap.size, i2, none⟩ (.bool true) (by show w3.heap.size + 1 ≠ w3.heap.size; omega))
                have HB9 := Lib.hid (HB6.out.setCell (p := ⟨w3.heap.size, i2, none⟩) (Nat.le_refl _) (.bool true))
                clear hch his hst2 hi2 hin e2
                go_wp2_with fail
                refine HRTX.out.mono ?_
                rintro _ _ ⟨rfl, rfl⟩
                go_wp2_with fail
                clear kw
                go_roundg (m - (k + 1))
                case measure => have := HK.out; have := HLT.out; omega
                case rel => exact ⟨k + 1, by first | rfl | go_num, by have := HK.out; have := HLT.out; omega, by rw [HNX.out]; exact HT9, HN9, HB9⟩
        · have t1 : decide ((k : Int) < (m : Int)) = false := decide_eq_false (by omega)
          have t1n : decide (k < m) = false := decide_eq_false hlt
          clear hlt hk
          go_wp2_with fail
          go_loopg [15] n (fun g v13 wq => ∃ j : Nat, v13 = .int .i64 (j : Int) ∧ j + g = n ∧ Hid (Below w3.heap.size w3 wq))
          case atStart => exact ⟨0, rfl, by omega, HB⟩
          case round =>
            obtain ⟨j, rfl, hj, HBQ⟩ := hrel
            rename World => wq
            have HJ := Lib.hid hj
            by_cases hjl : j < n
            · have s1 : decide ((j : Int) < (n : Int)) = true := decide_eq_true (by omega)
              have s1n : decide (j < n) = true := decide_eq_true hjl
              have HJL := Lib.hid hjl
              obtain ⟨⟨uid, hs2⟩, ht2⟩ : ∃ t, ts[j]? = some t := ⟨ts[j]'(by rw [HTSL.out]; exact hjl), List.getElem?_eq_getElem _⟩
              obtain ⟨gt2, qt2, mt2, kt2, rfl, hgt2, hu0, hu1, huh⟩ := HT3.out.at' j _ ht2
              obtain ⟨hud, hdj⟩ := HTD.out j _ ht2
              obtain ⟨gd2, qd2, md2, kd2, rfl, hgd2, hd0, hdh⟩ := HD3.out.at' j _ hdj
              dsimp only at hu0 hu1 huh hdh hud
              subst hud
              obtain rfl : mt2 = md2 := huh.len.symm.trans hdh.len
              have A2 : ∀ X, Below w3.heap.size w3 X → ∀ d, (X.drewN d).cell? ⟨gt2, j * 2, none⟩ = some (.int .i64 (j : Int)) := fun X h d => (h.cell (p := ⟨gt2, j * 2, none⟩) hgt2).trans hu0
              have A3 : ∀ X, Below w3.heap.size w3 X → ∀ d, (X.drewN d).cell? ⟨gt2, j * 2 + 1, none⟩ = some (.slice qt2 mt2 kt2) := fun X h d => (h.cell (p := ⟨gt2, j * 2 + 1, none⟩) hgt2).trans hu1
              have A4 : ∀ X, Below w3.heap.size w3 X → ∀ d, (X.drewN d).cell? ⟨gd2, j, none⟩ = some (.slice qd2 mt2 kd2) := fun X h d => (h.cell (p := ⟨gd2, j, none⟩) hgd2).trans hd0
              have a2 := A2 wq HBQ.out
              have a3 := A3 wq HBQ.out
              have a4 := A4 wq HBQ.out
              have HA3 := Lib.hid A3
              have HA4 := Lib.hid A4
              have HUH := Lib.hid huh
              have HDH2 := Lib.hid hdh
              have HSJ : Hid (∀ (i : Nat) (h : Spot), hs2[i]? = some h → D.order h.1 h.1 = some .eq ∧ D.order h.2 h.2 = some .eq) := Lib.hid fun i h hh => HSF.out j hs2 i h hdj hh
              have ja : ((j : Int)).toNat = j := by omega
              have jp : (0 : Int) ≤ (j : Int) := by omega
              have jz : (j : Int) < (n : Int) := by omega
              have hjj : ((j : Int) != (j : Int)) = false := by simp
              have hmm2 : ((mt2 : Int) != (mt2 : Int)) = false := by simp
              have HKB2 : Hid (j + 1 < 8796093022209) := Lib.hid (by have := HNB.out; omega)
              clear A2 A3 A4 hu0 hu1 huh ht2 hdj hd0 hdh hjl hj hgt2 hgd2
              go_upto_region 34 with (fail)
              go_quiet (fail)
              have HBQ2 := Lib.hid (below_drewN HBQ.out nq)
              clear a2 a3 a4 HBQ hjj hmm2
              generalize wq.drewN nq = w7 at HBQ2 ⊢
              go_wp2_with fail
              go_loopg [16] mt2 (fun g v16 wz => ∃ a : Nat, v16 = .int .i64 (a : Int) ∧ a + g = mt2 ∧ Hid (Below w3.heap.size w3 wz))
              case atStart => exact ⟨0, rfl, by omega, HBQ2⟩
              case round =>
                clear HBQ2
                obtain ⟨a, rfl, ha, HBZ⟩ := hrel
                rename World => wz
                have HA := Lib.hid ha
                have b4 : wz.cell? ⟨gd2, j, none⟩ = some (.slice qd2 mt2 kd2) := HA4.out wz HBZ.out 0
                by_cases hal : a < mt2
                · have r1 : decide ((a : Int) < (mt2 : Int)) = true := decide_eq_true (by omega)
                  have r1n : decide (a < mt2) = true := decide_eq_true hal
                  have HAL := Lib.hid hal
                  obtain ⟨⟨hr, hm⟩, hh⟩ : ∃ h, hs2[a]? = some h := ⟨hs2[a]'(by rw [HUH.out.len]; exact hal), List.getElem?_eq_getElem _⟩
                  obtain ⟨gx, rfl, hgx, hxc⟩ := HUH.out.at' (by omega)
                  obtain ⟨gy, rfl, hgy, hyc⟩ := HDH2.out.at' (by omega)
                  obtain ⟨o1, o2⟩ := HSJ.out a _ hh
                  have o1 : FloatKind.f64.format.order hr hr = some .eq := o1
                  have o2 : FloatKind.f64.format.order hm hm = some .eq := o2
                  have c1 : ∀ d, (wz.drewN d).cell? ⟨gx, a, none⟩ = some (.complex .f64 hr hm) := fun d => (HBZ.out.cell (p := ⟨gx, a, none⟩) hgx).trans (hxc a _ hh)
                  have c2 : ∀ d, (wz.drewN d).cell? ⟨gy, a, none⟩ = some (.complex .f64 hr hm) := fun d => (HBZ.out.cell (p := ⟨gy, a, none⟩) hgy).trans (hyc a _ hh)
                  have b3 := HA3.out wz HBZ.out
                  have b5 := HA4.out wz HBZ.out
                  have aa : ((a : Int)).toNat = a := by omega
                  have ap : (0 : Int) ≤ (a : Int) := by omega
                  have az : (a : Int) < (mt2 : Int) := by omega
                  have HAB : Hid (a + 1 < 8796093022209000) := Lib.hid (by have := HUH.out.lt; omega)
                  clear hh hxc hyc hal ha hgx hgy
                  go_upto_region 39 with (fail)
                  go_quiet (fail)
                  have HBZ2 := Lib.hid (below_drewN HBZ.out nq)
                  have kw := HAB.out
                  clear c1 c2 b3 b4 b5 o1 o2 HBZ
                  generalize wz.drewN nq = w8 at HBZ2 ⊢
                  go_wp2_with fail
                  clear kw
                  go_roundg (mt2 - (a + 1))
                  case measure => have := HA.out; have := HAL.out; omega
                  case rel => exact ⟨a + 1, by first | rfl | go_num, by have := HA.out; have := HAL.out; omega, HBZ2⟩
                · have r1 : decide ((a : Int) < (mt2 : Int)) = false := decide_eq_false (by omega)
                  have r1n : decide (a < mt2) = false := decide_eq_false hal
                  have kw := HKB2.out
                  clear hal ha
                  go_wp2_with fail
                  clear kw
                  go_roundg (n - (j + 1))
                  case measure => have := HJ.out; have := HJL.out; omega
                  case rel => exact ⟨j + 1, by first | rfl | go_num, by have := HJ.out; have := HJL.out; omega, HBZ⟩
            · have s1 : decide ((j : Int) < (n : Int)) = false := decide_eq_false (by omega)
              have s1n : decide (j < n) = false := decide_eq_false hjl
              clear hjl hj
              go_wp2_with fail
              go_ret
              exact ⟨rfl, below_then HB3.out HB3.out.size HBQ.out⟩
end Go.Proofs.Ytmggalbdlabcmaa
