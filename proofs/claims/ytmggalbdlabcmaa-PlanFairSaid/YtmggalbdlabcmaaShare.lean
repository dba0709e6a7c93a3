/- plan: Share. (Under way.) -/
import Derived.Test.YtmggalbdlabcmaaPlan2
import Derived.Test.YtmggalbdlabcmaaDel
namespace Go.Proofs.Ytmggalbdlabcmaa
open Go.RowKit Go.Lib St Fl Go.Sort
set_option linter.unusedVariables false
set_option linter.unusedSimpArgs false
theorem int_info : (Try.prog.info? 3).map (fun i => (i.zero, i.size, i.bytes)) = some (some (.int .i64 0), 1, 8) := by kernel_rfl
def hsOf (ts : List (Int × List Spot)) (i : Nat) : List Spot := (ts[i]?).elim [] Prod.snd
theorem hsOf_at {ts : List (Int × List Spot)} {i : Nat} {t : Int × List Spot} (h : ts[i]? = some t) : hsOf ts i = t.2 := by unfold hsOf; rw [h]; rfl
/-- a worker takes one of what is left -/
noncomputable def shStep (ts : List (Int × List Spot)) (s : List Int × List Nat) (z : Spot) : List Int × List Nat := match choose (s.2.map fun i => (i, farS z (hsOf ts i))) with
  | some y => (s.1 ++ [(y.1 : Int)], s.2.erase y.1)
  | none => (s.1 ++ [-1], s.2)
noncomputable def shareP (ts : List (Int × List Spot)) (zs : List Spot) : List Int × List Nat := zs.foldl (shStep ts) ([], List.range ts.length)
theorem shareP_snoc (ts : List (Int × List Spot)) (zs : List Spot) (z : Spot) : shareP ts (zs ++ [z]) = shStep ts (shareP ts zs) z := by unfold shareP; rw [List.foldl_append]; rfl
structure ShOk (ts : List (Int × List Spot)) (s : List Int × List Nat) (j : Nat) : Prop where
  len : s.1.length = j
  nd : s.2.Nodup
  lt : ∀ i ∈ s.2, i < ts.length
  le : s.2.length ≤ ts.length
theorem ShOk.start (ts : List (Int × List Spot)) : ShOk ts ([], List.range ts.length) 0 := ⟨rfl, List.nodup_range, fun i h => List.mem_range.1 h, by simp⟩
theorem ShOk.step {ts : List (Int × List Spot)} {s : List Int × List Nat} {j : Nat} (h : ShOk ts s j) (z : Spot) : ShOk ts (shStep ts s z) (j + 1) := by
  unfold shStep
  split
  · rename_i y _
    exact ⟨by simp [h.len], h.nd.erase _, fun i hi => h.lt i (List.mem_of_mem_erase hi), Nat.le_trans (List.length_erase_le) h.le⟩
  · exact ⟨by simp [h.len], h.nd, h.lt, h.le⟩
theorem shareP_ok (ts : List (Int × List Spot)) (zs : List Spot) : ShOk ts (shareP ts zs) zs.length := by
  suffices H : ∀ (zs : List Spot) (s : List Int × List Nat) (j : Nat), ShOk ts s j → ShOk ts (zs.foldl (shStep ts) s) (j + zs.length) by
    have := H zs _ 0 (ShOk.start ts)
    rw [Nat.zero_add] at this
    exact this
  intro zs
  induction zs with
  | nil => intro s j h; exact h
  | cons z zs ih =>
    intro s j h
    rw [List.foldl_cons, List.length_cons, show j + (zs.length + 1) = j + 1 + zs.length by omega]
    exact ih _ _ (h.step z)
theorem erase_at : ∀ {l : List Nat} {j i : Nat}, l.Nodup → l[j]? = some i → l.erase i = l.eraseIdx j
  | a :: l, 0, i, _, h => by
    obtain rfl : a = i := by simpa using h
    simp
  | a :: l, j + 1, i, hn, h => by
    have h' : l[j]? = some i := by simpa using h
    have hne : a ≠ i := fun e => (List.nodup_cons.1 hn).1 (e ▸ List.mem_of_getElem? h')
    rw [List.erase_cons_tail (by simpa using hne), List.eraseIdx_cons_succ, erase_at (List.nodup_cons.1 hn).2 h']
theorem nats_erase (l : List Nat) (j : Nat) : ((l.map Int.ofNat).eraseIdx j) = (l.eraseIdx j).map Int.ofNat := by
  rw [List.eraseIdx_eq_take_drop_succ, List.eraseIdx_eq_take_drop_succ, List.map_append, List.map_take, List.map_drop]
/-- 'some': the tasks of these numbers -/
structure SomeAt (w0 wr : World) (base : Nat) (ts : List (Int × List Spot)) (v : Value) (l : List Nat) : Prop where
  ex : ∃ rows : List (List Value), rows.length = l.length ∧ Recs wr base 29 2 v rows ∧ ∀ (a i : Nat), l[a]? = some i → ∃ t q m k, ts[i]? = some t ∧ rows[a]? = some [.int .i64 t.1, .slice q m k] ∧ HoldAt w0 q m k t.2
theorem SomeAt.nil (w0 wr : World) (base : Nat) (ts : List (Int × List Spot)) : SomeAt w0 wr base ts (.slice none 0 0) [] := ⟨[], rfl, Recs.nil _ _ _ _, fun a i h => by simp at h⟩
theorem SomeAt.push {w0 wr w' : World} {base : Nat} {ts : List (Int × List Spot)} {v v' : Value} {l : List Nat} {i : Nat} {t : Int × List Spot} {q : Option Addr} {m k : Nat} (h : SomeAt w0 wr base ts v l) (ht : ts[i]? = some t) (hh : HoldAt w0 q m k t.2)
    (hO : ∀ rows, rows.length = l.length → Recs wr base 29 2 v rows → w'.ownsRow base 29 2 v' (l.length + 1) (rows.flatten ++ [.int .i64 t.1, .slice q m k])) : SomeAt w0 w' base ts v' (l ++ [i]) := by
  obtain ⟨rows, h1, h2, h3⟩ := h.ex
  refine ⟨rows ++ [[.int .i64 t.1, .slice q m k]], by simp [h1], h2.app _ rfl (by rw [h1]; exact hO rows h1 h2), fun a j ha => ?_⟩
  by_cases hl : a < l.length
  · rw [List.getElem?_append_left hl] at ha
    obtain ⟨t2, q2, m2, k2, e1, e2, e3⟩ := h3 a j ha
    exact ⟨t2, q2, m2, k2, e1, by rw [List.getElem?_append_left (by omega)]; exact e2, e3⟩
  · have hil := (List.getElem?_eq_some_iff.1 ha).1
    rw [List.length_append] at hil
    obtain rfl : a = l.length := by simp at hil; omega
    rw [List.getElem?_append_right (Nat.le_refl _), Nat.sub_self] at ha
    obtain rfl := Option.some.inj ha
    exact ⟨t, q, m, k, ht, by rw [← h1, List.getElem?_append_right (Nat.le_refl _), Nat.sub_self]; rfl, hh⟩
def taskOf (ts : List (Int × List Spot)) (i : Nat) : Int × List Spot := (ts[i]?).getD (0, [])
theorem SomeAt.tasks {w0 wr : World} {base : Nat} {ts : List (Int × List Spot)} {v : Value} {l : List Nat} (h : SomeAt w0 wr base ts v l) (hb : Below w0.heap.size w0 wr) (hl : l.length < 8796093022208) : ∃ p c, v = .slice p l.length c ∧ TasksAt wr p l.length c (l.map (taskOf ts)) := by
  obtain ⟨rows, h1, h2, h3⟩ := h.ex
  obtain ⟨p, c, rfl⟩ := h2.slice
  refine ⟨p, c, by rw [h1], List.length_map .., hl, fun a t ht => ?_⟩
  rw [List.getElem?_map] at ht
  obtain ⟨i, hi, rfl⟩ := Option.map_eq_some_iff.1 ht
  obtain ⟨t, q, m, k, e1, e2, e3⟩ := h3 a i hi
  have hto : taskOf ts i = t := by unfold taskOf; rw [e1]; rfl
  have hal := (List.getElem?_eq_some_iff.1 e2).1
  obtain ⟨g, cap, hv, _, hlt, hc, _⟩ := h2.some (by omega)
  cases hv
  rw [hto]
  exact ⟨g, q, m, k, rfl, hlt, hc a _ 0 _ e2 rfl, hc a _ 1 _ e2 rfl, e3.below hb (Nat.le_refl _)⟩
theorem fars_some (z : Spot) (ts : List (Int × List Spot)) (l : List Nat) (hl : ∀ i ∈ l, i < ts.length) : farsS z (l.map (taskOf ts)) = l.map fun i => farS z (hsOf ts i) := by
  unfold farsS
  rw [List.map_map]
  refine List.map_congr_left fun i hi => ?_
  have h := List.getElem?_eq_getElem (hl i hi)
  unfold Function.comp taskOf hsOf
  rw [h]
  rfl
def natsE (l : List Nat) : List Int := l.map Int.ofNat
theorem range_snoc_set (n i : Nat) (hi : i < n) : ((List.range i).map (fun k : Nat => (k : Int)) ++ List.replicate (n - i) 0).set i (i : Int) = (List.range (i + 1)).map (fun k : Nat => (k : Int)) ++ List.replicate (n - (i + 1)) 0 := by
  rw [List.set_append_right _ _ (by simp), List.range_succ, List.map_append]
  simp only [List.length_map, List.length_range, Nat.sub_self]
  rw [show n - i = (n - (i + 1)) + 1 by omega, List.replicate_succ, List.set_cons_zero]
  simp
theorem own_of_blk {w : World} {g n : Nat} {cs : List Value} {e : TypeId} (h : Blk w g cs e) (base : Nat) (hb : base ≤ g) (hl : cs.length = n) (hm : n ≤ maxLen) : w.ownsRow base e 1 (.slice (some ⟨g, 0, none⟩) n n) n cs :=
  ⟨by rw [hl, Nat.mul_one], .inr ⟨g, n, cs.toArray, rfl, hb, h, Nat.le_refl _, hm, by simp [hl], by simp; exact List.take_of_length_le (by omega)⟩⟩
set_option maxRecDepth 20000 in
set_option maxHeartbeats 8000000 in
theorem share_c (p : Option Addr) (n c : Nat) (ts : List (Int × List Spot)) (q : Option Addr) (m k : Nat) (zs : List Spot) (w : World) (h : TasksAt w p n c ts) (hn : n ≤ 5864062014976) (hz : HoldAt w q m k zs) (hm : m ≤ 8796093022000) :
    Calls Try.prog 10 #[.slice p n c, .slice q m k] w fun e w' => ∃ v, e = .returned v ∧ w'.ownsRow w.heap.size 3 1 v m ((shareP ts zs).1.map encI) ∧ Below w.heap.size w w' := by
  have hm1 := fun w => run_make1 (P := Try.prog) 36 3 (.int .i64 0) 8 Try.underlying36 (by kernel_rfl) rfl n (by omega) (by omega) w
  have H := Lib.hid h
  have HL := Lib.hid h.len
  have HNB := Lib.hid hn
  have HZ := Lib.hid hz
  have HZL := Lib.hid hz.len
  have HMB := Lib.hid hm
  clear h hn hz hm
  go_enter Try.func10, Try.ntmps10
  go_wp2_with fail
  have M0 := Lib.hid (Blk.make w n (.int .i64 0) 3)
  rw [← fillL_zero n (fun k => .int .i64 (k : Int))] at M0
  have MB := Lib.hid ((Below.refl w.heap.size w).alloc (Nat.le_refl _) (.cells (rep n (.int .i64 0)) 3))
  generalize w.alloc (.cells (rep n (.int .i64 0)) 3) = w1 at M0 MB ⊢
  clear hm1
  go_loopg [19] n (fun gg v19 wr => ∃ i : Nat, v19 = .int .i64 (i : Int) ∧ i + gg = n ∧ Hid (Blk wr w.heap.size (fillL n i (fun k => .int .i64 (k : Int)) (.int .i64 0)) 3) ∧ Hid (Below w.heap.size w wr))
  case atStart => exact ⟨0, rfl, by omega, M0, MB⟩
  case round =>
    clear M0 MB
    obtain ⟨i, rfl, hi, M, MB⟩ := hrel
    have HI := Lib.hid hi
    by_cases hlt : i < n
    · have t1 : decide ((i : Int) < (n : Int)) = true := decide_eq_true (by omega)
      have t1n : decide (i < n) = true := decide_eq_true hlt
      have HLT := Lib.hid hlt
      have c2 := (M.out.cell i).trans (fillL_get n i _ _ i hlt)
      have f2 := M.out.frozen i
      have ia : ((i : Int)).toNat = i := by omega
      have pa : (0 : Int) ≤ (i : Int) := by omega
      have iz : (i : Int) < (n : Int) := by omega
      have kw : i + 1 < 8796093022209 := by have := HNB.out; omega
      have M2 := Lib.hid (M.out.set i (.int .i64 (i : Int)))
      rw [fillL_set n i (fun k => .int .i64 (k : Int)) _ hlt] at M2
      have MB2 := Lib.hid (MB.out.setCell (p := ⟨w.heap.size, i, none⟩) (Nat.le_refl _) (.int .i64 (i : Int)))
      clear hlt hi
      go_wp2_with fail
      clear kw
      go_roundg (n - (i + 1))
      case measure => have := HI.out; have := HLT.out; omega
      case rel => exact ⟨i + 1, by first | rfl | go_num, by have := HI.out; have := HLT.out; omega, M2, MB2⟩
    · have t1 : decide ((i : Int) < (n : Int)) = false := decide_eq_false (by omega)
      have t1n : decide (i < n) = false := decide_eq_false hlt
      obtain rfl : n = i := by omega
      have hfill : fillL n n (fun k => Value.int .i64 (k : Int)) (.int .i64 0) = (natsE (List.range n)).map encI := by
        unfold fillL natsE
        rw [List.map_map]
        refine List.map_congr_left fun k hk => ?_
        rw [if_pos (List.mem_range.1 hk)]
        rfl
      rw [hfill] at M
      have HOL := Lib.hid (own_of_blk (n := n) M.out w.heap.size (Nat.le_refl _) (by simp [natsE]) (by have := HNB.out; unfold maxLen; omega))
      clear hfill M hlt hi
      go_wp2_with fail
      have HS0 : Hid ((shareP ts (zs.take 0)).2 = List.range n) := Lib.hid (by unfold shareP; simp [HL.out])
      have hl0 : (List.range n).length = n := List.length_range
      have HOL0 : Hid (wr.ownsRow w.heap.size 3 1 (.slice (some ⟨w.heap.size, 0, none⟩) n n) (shareP ts (zs.take 0)).2.length ((natsE (shareP ts (zs.take 0)).2).map encI)) := Lib.hid (by rw [HS0.out, hl0]; exact HOL.out)
      clear HOL hl0 HS0 t1 t1n
      go_loopg [5, 7, 29] m (fun gj v5 v7 v29 wq => ∃ j : Nat, v29 = .int .i64 (j : Int) ∧ j + gj = m ∧ Hid (wq.ownsRow w.heap.size 3 1 v5 (shareP ts (zs.take j)).2.length ((natsE (shareP ts (zs.take j)).2).map encI)) ∧ Hid (wq.ownsRow w.heap.size 3 1 v7 j ((shareP ts (zs.take j)).1.map encI)) ∧ Hid (∀ q, v5.ownBlock = some q → v7.ownBlock ≠ some q) ∧ Hid (Below w.heap.size w wq))
      case atStart => exact ⟨0, rfl, by omega, HOL0, Lib.hid (by unfold shareP; exact World.ownsRow_nil _ _ _ _), Lib.hid (fun q e e2 => by cases e2), MB⟩
      case round =>
        clear HOL0 MB HI
        obtain ⟨j, rfl, hj, HLF, HOU, HAP, HB⟩ := hrel
        have HJ := Lib.hid hj
        by_cases hlt : j < m
        · have t1 : decide ((j : Int) < (m : Int)) = true := decide_eq_true (by omega)
          have t1n : decide (j < m) = true := decide_eq_true hlt
          have HLT := Lib.hid hlt
          obtain ⟨⟨zr, zi⟩, hzj⟩ : ∃ z, zs[j]? = some z := ⟨zs[j]'(by rw [HZL.out]; exact hlt), List.getElem?_eq_getElem _⟩
          obtain ⟨gz, rfl, hgz, hcz⟩ := HZ.out.at' (by omega)
          have k0 : wr.cell? ⟨gz, j, none⟩ = some (.complex .f64 zr zi) := (HB.out.cell (p := ⟨gz, j, none⟩) hgz).trans (hcz j _ hzj)
          have hok := shareP_ok ts (zs.take j)
          rw [show (zs.take j).length = j by rw [List.length_take, HZL.out]; omega] at hok
          have htk : zs.take (j + 1) = zs.take j ++ [(zr, zi)] := by rw [List.take_add_one, hzj]; rfl
          have hnx := shareP_snoc ts (zs.take j) (zr, zi)
          rw [← htk] at hnx
          have HNX := Lib.hid hnx
          have HOK := Lib.hid hok
          generalize shareP ts (zs.take j) = s at HLF HOU HNX HOK
          obtain ⟨os, lf⟩ := s
          dsimp only at HLF HOU
          have hlfn : lf.length ≤ n := by have := HOK.out.le; rw [HL.out] at this; exact this
          have HLFN := Lib.hid hlfn
          have ja : ((j : Int)).toNat = j := by omega
          have jp : (0 : Int) ≤ (j : Int) := by omega
          have jz : (j : Int) < (m : Int) := by omega
          obtain ⟨lp, lc, hlv⟩ := own_slice HLF.out
          subst hlv
          clear hcz hzj hok htk hnx hlfn hlt hj
          go_wp2_with fail
          have HRG : Hid (∃ g, (0 < lf.length → lp = some ⟨g, 0, none⟩ ∧ g < wr.heap.size ∧ ∀ (a i : Nat), lf[a]? = some i → wr.cell? ⟨g, a, none⟩ = some (.int .i64 (i : Int)))) := Lib.hid (by
            by_cases h0 : 0 < lf.length
            · obtain ⟨g, cap, e, _, hgl, hC⟩ := own_some HLF.out h0
              cases e
              exact ⟨g, fun _ => ⟨rfl, hgl, fun a i hi => (hC.get (j := a) (by unfold natsE; rw [List.getElem?_map, List.getElem?_map, hi]; rfl)).1⟩⟩
            · exact ⟨0, fun e => absurd e h0⟩)
          go_loopg [10, 35] lf.length (fun ga v10 v35 wq => ∃ a : Nat, v35 = .int .i64 (a : Int) ∧ a + ga = lf.length ∧ Hid (SomeAt w wq wr.heap.size ts v10 (lf.take a)) ∧ Hid (Below wr.heap.size wr wq))
          case atStart => exact ⟨0, rfl, by omega, Lib.hid (SomeAt.nil _ _ _ _), Lib.hid (Below.refl _ _)⟩
          case round =>
            obtain ⟨a, rfl, ha, HSO, HBQ⟩ := hrel
            rename World => wq
            have HA := Lib.hid ha
            by_cases hal : a < lf.length
            · have s1 : decide ((a : Int) < (lf.length : Int)) = true := decide_eq_true (by omega)
              have s1n : decide (a < lf.length) = true := decide_eq_true hal
              have HAL := Lib.hid hal
              obtain ⟨g0, hg0⟩ := HRG.out
              obtain ⟨rfl, hgl, hgc⟩ := hg0 (by omega)
              obtain ⟨i, hi⟩ : ∃ i, lf[a]? = some i := ⟨lf[a], List.getElem?_eq_getElem _⟩
              have hin : i < n := by have := HOK.out.lt i (List.mem_of_getElem? hi); rw [HL.out] at this; exact this
              obtain ⟨⟨tid, hs⟩, ht⟩ : ∃ t, ts[i]? = some t := ⟨ts[i]'(by rw [HL.out]; exact hin), List.getElem?_eq_getElem _⟩
              obtain ⟨gt, qt, mt, kt, rfl, hgt, hc0, hc1, hh⟩ := H.out.at' i _ ht
              have HBW := Lib.hid (below_then HB.out HB.out.size HBQ.out)
              have k1 : wq.cell? ⟨g0, a, none⟩ = some (.int .i64 (i : Int)) := (HBQ.out.cell (p := ⟨g0, a, none⟩) hgl).trans (hgc a i hi)
              have k2 : wq.cell? ⟨gt, i * 2, none⟩ = some (.int .i64 tid) := (HBW.out.cell (p := ⟨gt, i * 2, none⟩) hgt).trans hc0
              have k3 : wq.cell? ⟨gt, i * 2 + 1, none⟩ = some (.slice qt mt kt) := (HBW.out.cell (p := ⟨gt, i * 2 + 1, none⟩) hgt).trans hc1
              obtain ⟨rows, hr1, hr2, hr3⟩ := HSO.out.ex
              have hal2 : (lf.take a).length = a := by rw [List.length_take]; omega
              have HRO := Lib.hid (show wq.ownsRow wr.heap.size 29 2 _ a rows.flatten from by have := hr2.own; rw [hr1, hal2] at this; exact this)
              have HSP : Hid (∀ (w' : World) (v' : Value), w'.ownsRow wr.heap.size 29 2 v' (a + 1) (rows.flatten ++ [.int .i64 tid, .slice qt mt kt]) → SomeAt w w' wr.heap.size ts v' (lf.take (a + 1))) := Lib.hid fun w' v' hO => by
                have e : lf.take (a + 1) = lf.take a ++ [i] := by rw [List.take_add_one, hi]; rfl
                obtain ⟨rs2, e1, e2, e3⟩ := HSO.out.ex
                rw [e]
                refine ⟨rows ++ [[.int .i64 tid, .slice qt mt kt]], by simp [hr1], hr2.app _ rfl (by rw [hr1, hal2]; exact hO), fun b j hb => ?_⟩
                by_cases hl : b < (lf.take a).length
                · rw [List.getElem?_append_left hl] at hb
                  obtain ⟨t2, q2, m2, k2, f1, f2, f3⟩ := hr3 b j hb
                  exact ⟨t2, q2, m2, k2, f1, by rw [List.getElem?_append_left (by omega)]; exact f2, f3⟩
                · have hil := (List.getElem?_eq_some_iff.1 hb).1
                  rw [List.length_append] at hil
                  obtain rfl : b = (lf.take a).length := by simp at hil hl ⊢; omega
                  rw [List.getElem?_append_right (Nat.le_refl _), Nat.sub_self] at hb
                  obtain rfl := Option.some.inj hb
                  exact ⟨(tid, hs), qt, mt, kt, ht, by rw [← hr1, List.getElem?_append_right (Nat.le_refl _), Nat.sub_self]; rfl, hh⟩
              have aa : ((a : Int)).toNat = a := by omega
              have ap : (0 : Int) ≤ (a : Int) := by omega
              have az : (a : Int) < (lf.length : Int) := by omega
              have ia : ((i : Int)).toNat = i := by omega
              have ip : (0 : Int) ≤ (i : Int) := by omega
              have iz : (i : Int) < (n : Int) := by omega
              have HAB : Hid (a ≤ 5864062014976) := Lib.hid (by have := HLFN.out; have := HNB.out; omega)
              have kw : a + 1 < 8796093022209 := by have := HAB.out; omega
              clear hg0 hgc hi ht hc0 hc1 hh hr1 hr2 hr3 hal2 hal ha hin HSO
              go_wp2_with (at_builtin; refine wpList_appw rfl _ _ 24 rfl wr.heap.size 29 _ 2 32 Try.underlying24 ptask_info rfl (by decide) _ a _ rfl HRO.out [.int .i64 tid, .slice qt mt kt] _ 1 1 rfl rfl rfl (by have := HAB.out; unfold maxLen; omega) (by have := HAB.out; omega) HBQ.out.size ?_; intro v' w5 hO hG)
              have HB5 := Lib.hid (below_row HRO.out hG.out HBQ.out (Nat.le_refl _) HBQ.out.size)
              clear kw
              go_roundg (lf.length - (a + 1))
              case measure => have := HA.out; have := HAL.out; omega
              case rel => exact ⟨a + 1, by first | rfl | go_num, by have := HA.out; have := HAL.out; omega, Lib.hid (HSP.out _ _ hO.out), HB5⟩
            · have s1 : decide ((a : Int) < (lf.length : Int)) = false := decide_eq_false (by omega)
              have s1n : decide (a < lf.length) = false := decide_eq_false hal
              rw [List.take_of_length_le (by omega)] at HSO
              have HBW := Lib.hid (below_then HB.out HB.out.size HBQ.out)
              have hlfb : lf.length < 8796093022208 := by have := HLFN.out; have := HNB.out; omega
              obtain ⟨ps, cs, hvs, hta⟩ := HSO.out.tasks HBW.out hlfb
              have hpk := pick_c ps lf.length cs (lf.map (taskOf ts)) (zr, zi) wq hta
              rw [fars_some (zr, zi) ts lf HOK.out.lt] at hpk
              subst hvs
              obtain ⟨kk, hkk⟩ : ∃ kk, pickP (lf.map fun i => farS (zr, zi) (hsOf ts i)) = kk := ⟨_, rfl⟩
              rw [hkk] at hpk
              have HPK : Hid (Calls Try.prog 8 #[.slice ps lf.length cs, .complex .f64 zr zi] wq fun e w' => e = .returned (.int .i64 kk) ∧ Below wq.heap.size wq w') := Lib.hid hpk
              have hpl := pick_left hkk
              have HLQ := Lib.hid (own_below HLF.out HBQ.out (Nat.le_refl _))
              have HOQ := Lib.hid (own_below HOU.out HBQ.out (Nat.le_refl _))
              clear hta hpk hkk hal ha hlfb k0
              rcases hpl with ⟨rfl, hnil, hch⟩ | ⟨j', i, rfl, hji, hch⟩
              · have hst : shStep ts (os, lf) (zr, zi) = (os ++ [-1], lf) := by unfold shStep; dsimp only; rw [hch]
                have HST := Lib.hid (HNX.out.trans hst)
                clear hch hst hnil
                go_wp2_with fail
                refine HPK.out.mono ?_
                rintro _ w6 ⟨rfl, hb6⟩
                have HB6 := Lib.hid (below_then HBW.out HBW.out.size hb6)
                have HL6 := Lib.hid (own_below HLQ.out hb6 (Nat.le_refl _))
                have HO6 := Lib.hid (own_below HOQ.out hb6 (Nat.le_refl _))
                have kw : j + 1 < 8796093022209 := by have := HMB.out; have := HLT.out; omega
                clear hb6
                go_wp2_with (at_builtin; refine wpList_app rfl _ _ 36 rfl w.heap.size 3 _ 1 8 Try.underlying36 int_info rfl (by decide) _ j _ rfl HO6.out [.int .i64 (-1)] _ 1 1 rfl rfl rfl (by have := HLT.out; have := HMB.out; unfold maxLen; omega) (by have := HLT.out; have := HMB.out; omega) HB6.out.size ?_; intro v' w7 hO hG hN)
                have HB7 := Lib.hid (below_row HO6.out hG.out HB6.out (Nat.le_refl _) HB6.out.size)
                have HL7 := Lib.hid (own_grown HL6.out hG.out fun q e1 e2 => HAP.out q e2 e1)
                have HAP7 : Hid (∀ q, (Value.slice lp lf.length lc).ownBlock = some q → v'.ownBlock ≠ some q) := Lib.hid fun q e1 e2 => by
                  rcases hN.out with e | ⟨g, e, hg⟩
                  · exact HAP.out q e1 (e ▸ e2)
                  · rw [e] at e2
                    have := Option.some.inj e2
                    have := (HL6.out.lt q e1).2
                    omega
                clear kw
                go_roundg (m - (j + 1))
                case measure => have := HJ.out; have := HLT.out; omega
                case rel => exact ⟨j + 1, by first | rfl | go_num, by have := HJ.out; have := HLT.out; omega, by rw [HST.out]; exact HL7, by rw [HST.out, List.map_append]; exact hO, HAP7, HB7⟩
              · have hst : shStep ts (os, lf) (zr, zi) = (os ++ [(i : Int)], lf.erase i) := by unfold shStep; dsimp only; rw [hch]
                have hjl := (List.getElem?_eq_some_iff.1 hji).1
                have her := erase_at HOK.out.nd hji
                rw [her] at hst
                have HST := Lib.hid (HNX.out.trans hst)
                have HJI := Lib.hid hji
                have HJL := Lib.hid hjl
                have hnl : (lf.eraseIdx j').length = lf.length - 1 := by rw [List.length_eraseIdx, if_pos hjl]
                have HNL := Lib.hid hnl
                have kk0 : decide ((j' : Int) < 0) = false := decide_eq_false (by omega)
                clear hch hst hjl her hnl hji
                go_wp2_with fail
                refine HPK.out.mono ?_
                rintro _ w6 ⟨rfl, hb6⟩
                have HB6 := Lib.hid (below_then HBW.out HBW.out.size hb6)
                have HL6 := Lib.hid (own_below HLQ.out hb6 (Nat.le_refl _))
                have HO6 := Lib.hid (own_below HOQ.out hb6 (Nat.le_refl _))
                obtain ⟨gl, cl, e, _, _, hCl⟩ := own_some HL6.out (by have := HJL.out; omega)
                cases e
                have k1 : w6.cell? ⟨gl, j', none⟩ = some (.int .i64 (i : Int)) := (hCl.get (j := j') (by unfold natsE; rw [List.getElem?_map, List.getElem?_map, HJI.out]; rfl)).1
                have ja' : ((j' : Int)).toNat = j' := by omega
                have jp' : (0 : Int) ≤ (j' : Int) := by omega
                have jz' : (j' : Int) < (lf.length : Int) := by have := HJL.out; omega
                have kw : j + 1 < 8796093022209 := by have := HMB.out; have := HLT.out; omega
                have kw2 : j' + 1 < 8796093022209 := by have := HJL.out; have := HLFN.out; have := HNB.out; omega
                clear hb6 hCl
                go_wp2_with (at_builtin; refine wpList_app rfl _ _ 36 rfl w.heap.size 3 _ 1 8 Try.underlying36 int_info rfl (by decide) _ j _ rfl HO6.out [.int .i64 (i : Int)] _ 1 1 rfl rfl rfl (by have := HLT.out; have := HMB.out; unfold maxLen; omega) (by have := HLT.out; have := HMB.out; omega) HB6.out.size ?_; intro v' w7 hO hG hN)
                have HB7 := Lib.hid (below_row HO6.out hG.out HB6.out (Nat.le_refl _) HB6.out.size)
                have HL7 := Lib.hid (own_grown HL6.out hG.out fun q e1 e2 => HAP.out q e2 e1)
                have HAP7 : Hid (∀ q, (Value.slice (some ⟨gl, 0, none⟩) lf.length lc).ownBlock = some q → v'.ownBlock ≠ some q) := Lib.hid fun q e1 e2 => by
                  rcases hN.out with e | ⟨g, e, hg⟩
                  · exact HAP.out q e1 (e ▸ e2)
                  · rw [e] at e2
                    have := Option.some.inj e2
                    have := (HL6.out.lt q e1).2
                    omega
                have HOX := Lib.hid hO.out
                clear hO hG hN HB6 HO6 HL6 k1 kw2
                refine (delete_c w.heap.size (.slice (some ⟨gl, 0, none⟩) lf.length lc) (natsE lf) lf.length j' (by unfold natsE; rw [List.length_map]) HJL.out w7 HL7.out).mono ?_
                rintro _ w8 ⟨v8, rfl, ho8, hb8, hf8⟩
                have HL8 : Hid (w8.ownsRow w.heap.size 3 1 v8 (lf.eraseIdx j').length ((natsE (lf.eraseIdx j')).map encI)) := Lib.hid (by
                  rw [HNL.out]
                  unfold natsE at ho8 ⊢
                  rw [← nats_erase]
                  exact ho8)
                have HO8 := Lib.hid (own_fr HOX.out hf8 fun q e1 e2 => HAP7.out q e2 e1)
                have HB8 := Lib.hid (HB7.out.trans (hf8.below (fun q _ e => (HL7.out.lt q e).1) HB7.out.size))
                have HAP8 : Hid (∀ q, v8.ownBlock = some q → v'.ownBlock ≠ some q) := Lib.hid fun q e1 => HAP7.out q (hb8 ▸ e1)
                clear ho8 hb8 hf8
                go_wp2_with fail
                clear kw
                go_roundg (m - (j + 1))
                case measure => have := HJ.out; have := HLT.out; omega
                case rel => exact ⟨j + 1, by first | rfl | go_num, by have := HJ.out; have := HLT.out; omega, by rw [HST.out]; exact HL8, by rw [HST.out, List.map_append]; exact HO8, HAP8, HB8⟩
        · have t1 : decide ((j : Int) < (m : Int)) = false := decide_eq_false (by omega)
          have t1n : decide (j < m) = false := decide_eq_false hlt
          obtain rfl : m = j := by omega
          rw [List.take_of_length_le (by have := HZL.out; omega)] at HOU
          clear hlt hj
          go_wp2_with fail
          exact bodyPost_ret (results_tmp (by rfl) _ _ _) (by rfl) ⟨_, by rfl, HOU.out, HB.out⟩
end Go.Proofs.Ytmggalbdlabcmaa
