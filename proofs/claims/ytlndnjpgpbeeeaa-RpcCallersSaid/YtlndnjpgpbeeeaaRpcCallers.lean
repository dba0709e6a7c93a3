/- The walk of RpcCallers. -/
import Derived.Test.YtlndnjpgpbeeeaaRpcActs
import Derived.Deep.RegionHeld3
namespace Go.Proofs.Ytlndnjpgpbeeeaa
open Go.RowKit Go.Maps
set_option linter.unusedVariables false
set_option linter.unusedSimpArgs false
theorem CallerAt.fr {w w' : World} {b : Nat} {c : Cl} {S : Nat → Prop} (h : CallerAt w b c) (hf : Fr w w' S) (hb : ¬ S b) : CallerAt w' b c := Blk.fr h hf hb
theorem RefAt.fr {w w' : World} {b : Nat} {c : Cl} {S : Nat → Prop} (h : RefAt w b c) (hf : Fr w w' S) (hb : ¬ S b) : RefAt w' b c := Blk.fr h hf hb
set_option maxRecDepth 20000 in
set_option maxHeartbeats 1000000 in
theorem rpcCallers_walk (W : World) (a0 : Int) (w0 : (Lit.int .i64 a0).wf = true) (a1 : Int) (w1 : (Lit.int .i64 a1).wf = true) (sa : Option Addr) (sl sc : Nat) (xs : List Act) (hR : RActs W [.slice sa sl sc] xs) :
    Calls Try.prog 6 #[.int .i64 a0, .int .i64 a1, .slice sa sl sc] W fun e w' => e = .returned (.bool true) ∧ Below W.heap.size W w' := by
  obtain ⟨hn, hnc, hcb, hcm, hel⟩ := rsl_get hR
  have HEL := Lib.hid hel
  have hsl : sl ≤ 140737488355328 := by omega
  clear w0 w1 hR hel hcb hcm
  have l1 := clamp_lo (n := a0) (least := 1) (by decide)
  have l2 := clamp_hi a0 1
  have l3 := clamp_lo (n := a1) (least := 1) (by decide)
  have l4 := clamp_hi a1 1
  have HM0 := fun w => Lib.hid (clamp_any a0 1 (by decide) w)
  have HM1 := fun w => Lib.hid (clamp_any a1 1 (by decide) w)
  have HNC := fun w => Lib.hid (newCaller_any a0 a1 w)
  generalize clamp a0 1 = wait at l1 l2 HM0 HNC
  generalize clamp a1 1 = most at l3 l4 HM1 HNC
  go_enter Try.func6, Try.ntmps6
  go_wp2_with fail
  refine (rpcSpeaks_any W).mono ?_
  rintro e w1 ⟨rfl, hb⟩
  have HB := Lib.hid hb
  clear hb
  go_wp2_with fail
  refine (HNC w1).out.mono ?_
  rintro e w2 ⟨rfl, rfl⟩
  have HC := Lib.hid (Blk.new w1 (Cl.cells ⟨wait, most, 0, false, 0, 0⟩) 73)
  have HB2 := Lib.hid (HB.out.alloc HB.out.size (.cells #[.int .i64 wait, .int .i64 most, .int .i64 0, .bool false, .int .i64 0, .int .i64 0] 73))
  have hsz : W.heap.size ≤ w1.heap.size := HB.out.size
  have hsz2 : (w1.alloc (.cells #[.int .i64 wait, .int .i64 most, .int .i64 0, .bool false, .int .i64 0, .int .i64 0] 73)).heap.size = w1.heap.size + 1 := by simp
  rw [show (Cl.cells ⟨wait, most, 0, false, 0, 0⟩).toArray = #[.int .i64 wait, .int .i64 most, .int .i64 0, .bool false, .int .i64 0, .int .i64 0] from rfl] at HC
  generalize w1.alloc (.cells #[.int .i64 wait, .int .i64 most, .int .i64 0, .bool false, .int .i64 0, .int .i64 0] 73) = w2 at HC HB2 hsz2 ⊢
  go_wp2_with fail
  refine (HM0 w2).out.mono ?_
  rintro e w3 ⟨rfl, rfl⟩
  go_wp2_with fail
  refine (HM1 w2).out.mono ?_
  rintro e w3 ⟨rfl, rfl⟩
  go_wp2_with fail
  have HC3 := Lib.hid (HC.out.alloc (.cells #[.int .i64 wait, .int .i64 most, .int .i64 0, .int .i64 0, .int .i64 0, .bool false] 57))
  have HR3 := Lib.hid (Blk.new w2 (Cl.refCells ⟨wait, most, 0, false, 0, 0⟩) 57)
  have HB3 := Lib.hid (HB2.out.alloc HB2.out.size (.cells #[.int .i64 wait, .int .i64 most, .int .i64 0, .int .i64 0, .int .i64 0, .bool false] 57))
  have hsz3 : (w2.alloc (.cells #[.int .i64 wait, .int .i64 most, .int .i64 0, .int .i64 0, .int .i64 0, .bool false] 57)).heap.size = w1.heap.size + 2 := by simp [hsz2]
  rw [show (Cl.refCells ⟨wait, most, 0, false, 0, 0⟩).toArray = #[.int .i64 wait, .int .i64 most, .int .i64 0, .int .i64 0, .int .i64 0, .bool false] from rfl, hsz2] at HR3
  try rw [hsz2]
  generalize w2.alloc (.cells #[.int .i64 wait, .int .i64 most, .int .i64 0, .int .i64 0, .int .i64 0, .bool false] 57) = w3 at HC3 HR3 HB3 hsz3 ⊢
  have hwf : Hid (Cl.Wf ⟨wait, most, 0, false, 0, 0⟩) := Lib.hid ⟨l1, l2, l3, l4, Int.le_refl 0, (by decide : (0 : Int) ≤ 1099511627776), Int.le_refl 0, (by decide : (0 : Int) ≤ 1099511627776)⟩
  clear HC HB2 hsz2 l1 l2 l3 l4 HM0 HM1 HNC HB
  go_loopg [9] sl (fun g iv wr => ∃ (k : Nat) (c : Cl), iv = .int .i64 k ∧ k ≤ sl ∧ g = sl - k ∧ Hid c.Wf ∧ Hid (CallerAt wr w1.heap.size c) ∧ Hid (RefAt wr (w1.heap.size + 1) c) ∧ Hid (Fr w3 wr (fun k => k = w1.heap.size ∨ k = w1.heap.size + 1)))
  case atStart => exact ⟨0, _, rfl, Nat.zero_le _, rfl, hwf, HC3, HR3, Lib.hid (Fr.refl _ _)⟩
  case round =>
    obtain ⟨k, c, rfl, hk, hg, HW, HC, HR, HF⟩ := hrel
    subst hg
    clear hwf HC3 HR3
    by_cases h : k < sl
    · obtain ⟨x, hx⟩ : ∃ x, xs[k]? = some x := ⟨xs[k], List.getElem?_eq_getElem (by omega)⟩
      obtain ⟨b, off, rfl, hbW, hxw, hcell⟩ := HEL.out k x hx
      have HXW := Lib.hid hxw
      have hcw : ∀ (i : Nat) (v : Value), x.cells[i]? = some v → wr.cell? ⟨b, off + (k * 4 + i), none⟩ = some v := fun i v hv => by
        rw [HF.out.cell (by show b < _; omega) (by intro e; have e : b = _ ∨ b = _ := e; omega), ← hcell i v hv]
        exact World.cell?_of_block (HB3.out.block b hbW)
      have d0 : wr.cell? ⟨b, off + k * 4, none⟩ = some (.int .i64 x.what) := hcw 0 _ rfl
      have d1 : wr.cell? ⟨b, off + k * 4 + 1, none⟩ = some (.int .i64 x.a) := hcw 1 _ rfl
      have d2 : wr.cell? ⟨b, off + k * 4 + 2, none⟩ = some (.int .i64 x.b) := hcw 2 _ rfl
      have d3 : wr.cell? ⟨b, off + k * 4 + 3, none⟩ = some (.string x.text) := hcw 3 _ rfl
      have hkd := tmod3 x.what hxw.w1 hxw.w2
      clear hcw hcell hx hxw HEL
      obtain ⟨what, ta, tb, tt⟩ := x
      dsimp only at *
      go_upto_region 9 with (fail)
      have HI := Lib.hid (Blk.new wr [.int .i64 what, .int .i64 ta, .int .i64 tb, .string tt] 40)
      have HCx := Lib.hid (Blk.alloc HC.out (.cells #[.int .i64 what, .int .i64 ta, .int .i64 tb, .string tt] 40))
      have HRx := Lib.hid (Blk.alloc HR.out (.cells #[.int .i64 what, .int .i64 ta, .int .i64 tb, .string tt] 40))
      have HFx := Lib.hid (HF.out.alloc (.cells #[.int .i64 what, .int .i64 ta, .int .i64 tb, .string tt] 40))
      have hszr : w1.heap.size + 2 ≤ wr.heap.size := by have := HF.out.size; omega
      generalize wr.alloc (.cells #[.int .i64 what, .int .i64 ta, .int .i64 tb, .string tt] 40) = wx at HI HCx HRx HFx ⊢
      have i0 : wx.cell? ⟨wr.heap.size, 0, none⟩ = some (.int .i64 what) := HI.out.cell 0
      have i1 : wx.cell? ⟨wr.heap.size, 1, none⟩ = some (.int .i64 ta) := HI.out.cell 1
      have i2 : wx.cell? ⟨wr.heap.size, 2, none⟩ = some (.int .i64 tb) := HI.out.cell 2
      have r2 : wx.cell? ⟨w1.heap.size + 1, 2, none⟩ = some (.int .i64 c.call) := HRx.out.cell 2
      have r3 : wx.cell? ⟨w1.heap.size + 1, 3, none⟩ = some (.int .i64 c.begun) := HRx.out.cell 3
      have r4 : wx.cell? ⟨w1.heap.size + 1, 4, none⟩ = some (.int .i64 c.sent) := HRx.out.cell 4
      have r5 : wx.cell? ⟨w1.heap.size + 1, 5, none⟩ = some (.bool c.under) := HRx.out.cell 5
      have fr : ∀ j, wx.frozen? ⟨w1.heap.size + 1, j, none⟩ = false := fun j => HRx.out.frozen j
      clear d0 d1 d2 d3 HC HR
      rcases hkd with hkd | hkd | hkd
      · go_upto_region 17 with (fail)
        have HRs : Hid (Blk ((wx.setCell ⟨w1.heap.size + 1, 2, none⟩ (.int .i64 (wrap64 (c.call + 1)))).setCell ⟨w1.heap.size + 1, 5, none⟩ (.bool true)) (w1.heap.size + 1) (Cl.refCells { c with call := wrap64 (c.call + 1), under := true }) 57) := Lib.hid ((Blk.set HRx.out 2 _).set 5 _)
        have HCs : Hid (CallerAt ((wx.setCell ⟨w1.heap.size + 1, 2, none⟩ (.int .i64 (wrap64 (c.call + 1)))).setCell ⟨w1.heap.size + 1, 5, none⟩ (.bool true)) w1.heap.size c) := Lib.hid (Blk.other (Blk.other HCx.out _ _ (by show w1.heap.size ≠ w1.heap.size + 1; omega)) _ _ (by show w1.heap.size ≠ w1.heap.size + 1; omega))
        have HIs : Hid (Blk ((wx.setCell ⟨w1.heap.size + 1, 2, none⟩ (.int .i64 (wrap64 (c.call + 1)))).setCell ⟨w1.heap.size + 1, 5, none⟩ (.bool true)) wr.heap.size [.int .i64 what, .int .i64 ta, .int .i64 tb, .string tt] 40) := Lib.hid (Blk.other (Blk.other HI.out _ _ (by show wr.heap.size ≠ w1.heap.size + 1; omega)) _ _ (by show wr.heap.size ≠ w1.heap.size + 1; omega))
        have HFs : Hid (Fr w3 ((wx.setCell ⟨w1.heap.size + 1, 2, none⟩ (.int .i64 (wrap64 (c.call + 1)))).setCell ⟨w1.heap.size + 1, 5, none⟩ (.bool true)) (fun k => k = w1.heap.size ∨ k = w1.heap.size + 1)) := Lib.hid ((HFx.out.setCell _ _ fun _ => .inr rfl).setCell _ _ fun _ => .inr rfl)
        clear i0 i1 i2 r2 r3 r4 r5 fr HI HCx HRx HFx
        generalize ((wx.setCell ⟨w1.heap.size + 1, 2, none⟩ (.int .i64 (wrap64 (c.call + 1)))).setCell ⟨w1.heap.size + 1, 5, none⟩ (.bool true)) = wy at HRs HCs HIs HFs ⊢
        have i1 : wy.cell? ⟨wr.heap.size, 1, none⟩ = some (.int .i64 ta) := HIs.out.cell 1
        have r3 : wy.cell? ⟨w1.heap.size + 1, 3, none⟩ = some (.int .i64 c.begun) := HRs.out.cell 3
        have r4 : wy.cell? ⟨w1.heap.size + 1, 4, none⟩ = some (.int .i64 c.sent) := HRs.out.cell 4
        have fr : ∀ j, wy.frozen? ⟨w1.heap.size + 1, j, none⟩ = false := fun j => HRs.out.frozen j
        go_upto_region 19 with (go_at_call 20; refine (clamp_any ta 0 (by decide) _).mono ?_; rintro e w' ⟨rfl, rfl⟩)
        have HRt : Hid (RefAt ((wy.setCell ⟨w1.heap.size + 1, 3, none⟩ (.int .i64 (clamp ta 0))).setCell ⟨w1.heap.size + 1, 4, none⟩ (.int .i64 (clamp ta 0))) (w1.heap.size + 1) (c.start ta)) := Lib.hid ((Blk.set HRs.out 3 _).set 4 _)
        have HCt : Hid (CallerAt ((wy.setCell ⟨w1.heap.size + 1, 3, none⟩ (.int .i64 (clamp ta 0))).setCell ⟨w1.heap.size + 1, 4, none⟩ (.int .i64 (clamp ta 0))) w1.heap.size c) := Lib.hid (Blk.other (Blk.other HCs.out _ _ (by show w1.heap.size ≠ w1.heap.size + 1; omega)) _ _ (by show w1.heap.size ≠ w1.heap.size + 1; omega))
        have HIt := Lib.hid (Blk.other (Blk.other HIs.out ⟨w1.heap.size + 1, 3, none⟩ (.int .i64 (clamp ta 0)) (by show wr.heap.size ≠ w1.heap.size + 1; omega)) ⟨w1.heap.size + 1, 4, none⟩ (.int .i64 (clamp ta 0)) (by show wr.heap.size ≠ w1.heap.size + 1; omega))
        have HFt := Lib.hid ((HFs.out.setCell ⟨w1.heap.size + 1, 3, none⟩ (.int .i64 (clamp ta 0)) fun _ => .inr rfl).setCell ⟨w1.heap.size + 1, 4, none⟩ (.int .i64 (clamp ta 0)) fun _ => .inr rfl)
        clear i1 r3 r4 fr HRs HCs HIs HFs
        generalize ((wy.setCell ⟨w1.heap.size + 1, 3, none⟩ (.int .i64 (clamp ta 0))).setCell ⟨w1.heap.size + 1, 4, none⟩ (.int .i64 (clamp ta 0))) = wv at HRt HCt HIt HFt ⊢
        have k1 : wv.cell? ⟨wr.heap.size, 1, none⟩ = some (.int .i64 ta) := HIt.out.cell 1
        have k2 : wv.cell? ⟨w1.heap.size + 1, 2, none⟩ = some (.int .i64 (c.start ta).call) := HRt.out.cell 2
        go_region_held3 (fun w' => w'.cell? ⟨wr.heap.size, 1, none⟩ = some (.int .i64 ta) ∧ w'.cell? ⟨w1.heap.size + 1, 2, none⟩ = some (.int .i64 (c.start ta).call))
          (first | exact ⟨k1, k2⟩ | exact ⟨m1, m2⟩ | go_keep)
          (first | (go_at_call 17; refine (start_any w1.heap.size c ta _ (Blk.drewN HCt.out 1)).mono ?_; rintro e w5 ⟨rfl, hC5, hF5⟩; have HC5 := Lib.hid hC5; have HF5 := Lib.hid ((HFt.out.drewN 1).trans hF5 fun _ _ e => .inl e); have HR5 : Hid (RefAt w5 (w1.heap.size + 1) (c.start ta)) := Lib.hid (Blk.fr (Blk.drewN HRt.out 1) hF5 (by intro e; have e : w1.heap.size + 1 = w1.heap.size := e; omega)); have m2 := HR5.out.cell 2; have m1 := (Blk.fr (Blk.drewN HIt.out 1) hF5 (by intro e; have e : wr.heap.size = w1.heap.size := e; omega)).cell 1; clear hC5 hF5))
        clear m1 m2 k1 k2
        go_wp2_with fail
        refine (call_any w1.heap.size (c.start ta) _ HC5.out).mono ?_
        rintro e wc ⟨rfl, nq, rfl⟩
        have q2 : (w5.drewN nq).cell? ⟨w1.heap.size + 1, 2, none⟩ = some (.int .i64 ((c.start ta)).call) := (Blk.drewN HR5.out nq).cell 2
        have q5 : (w5.drewN nq).cell? ⟨w1.heap.size + 1, 5, none⟩ = some (.bool ((c.start ta)).under) := (Blk.drewN HR5.out nq).cell 5
        have HCz : Hid (CallerAt (w5.drewN nq) w1.heap.size ((c.start ta))) := Lib.hid (Blk.drewN HC5.out nq)
        have HRz : Hid (RefAt (w5.drewN nq) (w1.heap.size + 1) ((c.start ta))) := Lib.hid (Blk.drewN HR5.out nq)
        have HFz := Lib.hid (HF5.out.drewN nq)
        generalize w5.drewN nq = wz at q2 q5 HCz HRz HFz ⊢
        go_wp2_with fail
        go_roundg (sl - (k + 1))
        case measure => omega
        case rel => exact ⟨k + 1, _, val_int (by omega), by omega, rfl, Lib.hid (Cl.start_wf HW.out ta), HCz, HRz, HFz⟩
      · go_upto_region 22 with (fail)
        clear r2 r3 r4 r5 fr i0 i2
        go_region_held3 (fun w' => w'.cell? ⟨wr.heap.size, 1, none⟩ = some (.int .i64 ta))
          (first | exact i1 | exact m1 | exact m3)
          (first
            | (go_at_call 18; refine (tick_any w1.heap.size c HW.out ta _ (Blk.drewN HCx.out 1)).mono ?_; rintro e w5 ⟨rfl, hC5, hF5⟩; have HC5 := Lib.hid hC5; have HF5 := Lib.hid ((HFx.out.drewN 1).trans hF5 fun _ _ e => .inl e); have HR5 : Hid (RefAt w5 (w1.heap.size + 1) c) := Lib.hid (Blk.fr (Blk.drewN HRx.out 1) hF5 (by intro e; have e : w1.heap.size + 1 = w1.heap.size := e; omega)); have HI5 := Lib.hid (Blk.fr (Blk.drewN HI.out 1) hF5 (by intro e; have e : wr.heap.size = w1.heap.size := e; omega)); have m1 := HI5.out.cell 1; clear hC5 hF5)
            | (go_at_call 21; refine (refTick_any (w1.heap.size + 1) c HW.out ta _ HR5.out).mono ?_; rintro e w6 ⟨rfl, hR6, hF6⟩; have HR6 := Lib.hid hR6; have HF6 := Lib.hid (HF5.out.trans hF6 fun _ _ e => .inr e); have HC6 : Hid (CallerAt w6 w1.heap.size (c.tick ta).2) := Lib.hid (Blk.fr HC5.out hF6 (by intro e; have e : w1.heap.size = w1.heap.size + 1 := e; omega)); have m3 := (Blk.fr HI5.out hF6 (by intro e; have e : wr.heap.size = w1.heap.size + 1 := e; omega)).cell 1; clear hR6 hF6))
        clear i1 m1 m3
        go_wp2_with fail
        refine (call_any w1.heap.size (c.tick ta).2 _ HC6.out).mono ?_
        rintro e wc ⟨rfl, nq, rfl⟩
        have q2 : (w6.drewN nq).cell? ⟨w1.heap.size + 1, 2, none⟩ = some (.int .i64 ((c.tick ta).2).call) := (Blk.drewN HR6.out nq).cell 2
        have q5 : (w6.drewN nq).cell? ⟨w1.heap.size + 1, 5, none⟩ = some (.bool ((c.tick ta).2).under) := (Blk.drewN HR6.out nq).cell 5
        have HCz : Hid (CallerAt (w6.drewN nq) w1.heap.size ((c.tick ta).2)) := Lib.hid (Blk.drewN HC6.out nq)
        have HRz : Hid (RefAt (w6.drewN nq) (w1.heap.size + 1) ((c.tick ta).2)) := Lib.hid (Blk.drewN HR6.out nq)
        have HFz := Lib.hid (HF6.out.drewN nq)
        generalize w6.drewN nq = wz at q2 q5 HCz HRz HFz ⊢
        go_wp2_with fail
        go_roundg (sl - (k + 1))
        case measure => omega
        case rel => exact ⟨k + 1, _, val_int (by omega), by omega, rfl, Lib.hid (Cl.tick_wf HW.out ta), HCz, HRz, HFz⟩
      · have HWg := Lib.hid (Cl.got_wf HW.out tb)
        cases hu : c.under
        · have HU := Lib.hid hu
          rw [hu] at r5
          have eg : c.got tb = (false, c) := by unfold Cl.got; rw [if_neg (by rw [hu]; simp)]
          clear hu
          go_upto_region 10 with (fail)
          go_quiet (fail)
          have HCq := Lib.hid (Blk.drewN HCx.out nq)
          have HRq := Lib.hid (Blk.drewN HRx.out nq)
          have HIq := Lib.hid (Blk.drewN HI.out nq)
          have HFq := Lib.hid (HFx.out.drewN nq)
          clear r2 r3 r4 r5 fr i0 i1 i2 HCx HRx HI HFx
          generalize wx.drewN nq = wy at HCq HRq HIq HFq ⊢
          have i2 : wy.cell? ⟨wr.heap.size, 2, none⟩ = some (.int .i64 tb) := HIq.out.cell 2
          go_wp2_with fail
          refine (got_any w1.heap.size c tb _ HCq.out).mono ?_
          rw [eg]
          rintro e w5 ⟨rfl, hC5, hF5⟩
          have HC5 := Lib.hid hC5
          have HF5 := Lib.hid (HFq.out.trans hF5 fun _ _ e => .inl e)
          have HR5 : Hid (RefAt w5 (w1.heap.size + 1) c) := Lib.hid (Blk.fr HRq.out hF5 (by intro e; have e : w1.heap.size + 1 = w1.heap.size := e; omega))
          clear hC5 hF5 i2 HCq HRq HIq HFq
          have r5 : w5.cell? ⟨w1.heap.size + 1, 5, none⟩ = some (.bool false) := by have := HR5.out.cell 5; rw [this]; show some (Value.bool c.under) = _; rw [HU.out]
          have fr : ∀ j, w5.frozen? ⟨w1.heap.size + 1, j, none⟩ = false := fun j => HR5.out.frozen j
          go_upto_region 24 with (fail)
          have HR6 : Hid (RefAt (w5.setCell ⟨w1.heap.size + 1, 5, none⟩ (.bool false)) (w1.heap.size + 1) c) := Lib.hid (by have := Blk.set HR5.out 5 (.bool false); rw [show c.refCells.set 5 (.bool false) = Cl.refCells c from (by unfold Cl.refCells; rw [HU.out]; rfl)] at this; exact this)
          have HC6 : Hid (CallerAt (w5.setCell ⟨w1.heap.size + 1, 5, none⟩ (.bool false)) w1.heap.size c) := Lib.hid (Blk.other HC5.out _ _ (by show w1.heap.size ≠ w1.heap.size + 1; omega))
          have HF6 := Lib.hid (HF5.out.setCell ⟨w1.heap.size + 1, 5, none⟩ (.bool false) fun _ => .inr rfl)
          clear r5 fr eg
          generalize w5.setCell ⟨w1.heap.size + 1, 5, none⟩ (.bool false) = w6 at HR6 HC6 HF6 ⊢
          go_wp2_with fail
          refine (call_any w1.heap.size c _ HC6.out).mono ?_
          rintro e wc ⟨rfl, nq, rfl⟩
          have q2 : (w6.drewN nq).cell? ⟨w1.heap.size + 1, 2, none⟩ = some (.int .i64 (c).call) := (Blk.drewN HR6.out nq).cell 2
          have q5 : (w6.drewN nq).cell? ⟨w1.heap.size + 1, 5, none⟩ = some (.bool (c).under) := (Blk.drewN HR6.out nq).cell 5
          have HCz : Hid (CallerAt (w6.drewN nq) w1.heap.size (c)) := Lib.hid (Blk.drewN HC6.out nq)
          have HRz : Hid (RefAt (w6.drewN nq) (w1.heap.size + 1) (c)) := Lib.hid (Blk.drewN HR6.out nq)
          have HFz := Lib.hid (HF6.out.drewN nq)
          generalize w6.drewN nq = wz at q2 q5 HCz HRz HFz ⊢
          go_wp2_with fail
          go_roundg (sl - (k + 1))
          case measure => omega
          case rel => exact ⟨k + 1, _, val_int (by omega), by omega, rfl, Lib.hid HW.out, HCz, HRz, HFz⟩
        · have HU := Lib.hid hu
          rw [hu] at r5
          by_cases hcb : c.call = tb
          · have eg : c.got tb = (true, { c with under := false }) := by unfold Cl.got; rw [if_pos ⟨hu, hcb⟩]
            have hb : (c.call == tb) = true := by simp [hcb]
            rw [eg] at HWg
            clear hu hcb
            go_upto_region 10 with (fail)
            go_quiet (fail)
            have HCq := Lib.hid (Blk.drewN HCx.out nq)
            have HRq := Lib.hid (Blk.drewN HRx.out nq)
            have HIq := Lib.hid (Blk.drewN HI.out nq)
            have HFq := Lib.hid (HFx.out.drewN nq)
            clear r2 r3 r4 r5 fr i0 i1 i2 HCx HRx HI HFx
            generalize wx.drewN nq = wy at HCq HRq HIq HFq ⊢
            have i2 : wy.cell? ⟨wr.heap.size, 2, none⟩ = some (.int .i64 tb) := HIq.out.cell 2
            go_wp2_with fail
            refine (got_any w1.heap.size c tb _ HCq.out).mono ?_
            rw [eg]
            rintro e w5 ⟨rfl, hC5, hF5⟩
            have HC5 := Lib.hid hC5
            have HF5 := Lib.hid (HFq.out.trans hF5 fun _ _ e => .inl e)
            have HR5 : Hid (RefAt w5 (w1.heap.size + 1) c) := Lib.hid (Blk.fr HRq.out hF5 (by intro e; have e : w1.heap.size + 1 = w1.heap.size := e; omega))
            clear hC5 hF5 i2 HCq HRq HIq HFq
            have r5 : w5.cell? ⟨w1.heap.size + 1, 5, none⟩ = some (.bool true) := by have := HR5.out.cell 5; rw [this]; show some (Value.bool c.under) = _; rw [HU.out]
            have fr : ∀ j, w5.frozen? ⟨w1.heap.size + 1, j, none⟩ = false := fun j => HR5.out.frozen j
            go_upto_region 24 with (fail)
            have HR6 : Hid (RefAt (w5.setCell ⟨w1.heap.size + 1, 5, none⟩ (.bool false)) (w1.heap.size + 1) ({ c with under := false } : Cl)) := Lib.hid (by have := Blk.set HR5.out 5 (.bool false); rw [show c.refCells.set 5 (.bool false) = Cl.refCells ({ c with under := false } : Cl) from rfl] at this; exact this)
            have HC6 : Hid (CallerAt (w5.setCell ⟨w1.heap.size + 1, 5, none⟩ (.bool false)) w1.heap.size ({ c with under := false } : Cl)) := Lib.hid (Blk.other HC5.out _ _ (by show w1.heap.size ≠ w1.heap.size + 1; omega))
            have HF6 := Lib.hid (HF5.out.setCell ⟨w1.heap.size + 1, 5, none⟩ (.bool false) fun _ => .inr rfl)
            clear r5 fr eg
            generalize w5.setCell ⟨w1.heap.size + 1, 5, none⟩ (.bool false) = w6 at HR6 HC6 HF6 ⊢
            go_wp2_with fail
            refine (call_any w1.heap.size ({ c with under := false } : Cl) _ HC6.out).mono ?_
            rintro e wc ⟨rfl, nq, rfl⟩
            have q2 : (w6.drewN nq).cell? ⟨w1.heap.size + 1, 2, none⟩ = some (.int .i64 (({ c with under := false } : Cl)).call) := (Blk.drewN HR6.out nq).cell 2
            have q5 : (w6.drewN nq).cell? ⟨w1.heap.size + 1, 5, none⟩ = some (.bool (({ c with under := false } : Cl)).under) := (Blk.drewN HR6.out nq).cell 5
            have HCz : Hid (CallerAt (w6.drewN nq) w1.heap.size (({ c with under := false } : Cl))) := Lib.hid (Blk.drewN HC6.out nq)
            have HRz : Hid (RefAt (w6.drewN nq) (w1.heap.size + 1) (({ c with under := false } : Cl))) := Lib.hid (Blk.drewN HR6.out nq)
            have HFz := Lib.hid (HF6.out.drewN nq)
            generalize w6.drewN nq = wz at q2 q5 HCz HRz HFz ⊢
            go_wp2_with fail
            go_roundg (sl - (k + 1))
            case measure => omega
            case rel => exact ⟨k + 1, _, val_int (by omega), by omega, rfl, Lib.hid HWg.out, HCz, HRz, HFz⟩
          · have eg : c.got tb = (false, c) := by unfold Cl.got; rw [if_neg (by rw [hu]; simp [hcb])]
            have hb : (c.call == tb) = false := by simp [hcb]
            clear hu hcb
            go_upto_region 10 with (fail)
            go_quiet (fail)
            have HCq := Lib.hid (Blk.drewN HCx.out nq)
            have HRq := Lib.hid (Blk.drewN HRx.out nq)
            have HIq := Lib.hid (Blk.drewN HI.out nq)
            have HFq := Lib.hid (HFx.out.drewN nq)
            clear r2 r3 r4 r5 fr i0 i1 i2 HCx HRx HI HFx
            generalize wx.drewN nq = wy at HCq HRq HIq HFq ⊢
            have i2 : wy.cell? ⟨wr.heap.size, 2, none⟩ = some (.int .i64 tb) := HIq.out.cell 2
            go_wp2_with fail
            refine (got_any w1.heap.size c tb _ HCq.out).mono ?_
            rw [eg]
            rintro e w5 ⟨rfl, hC5, hF5⟩
            have HC5 := Lib.hid hC5
            have HF5 := Lib.hid (HFq.out.trans hF5 fun _ _ e => .inl e)
            have HR5 : Hid (RefAt w5 (w1.heap.size + 1) c) := Lib.hid (Blk.fr HRq.out hF5 (by intro e; have e : w1.heap.size + 1 = w1.heap.size := e; omega))
            clear hC5 hF5 i2 HCq HRq HIq HFq
            have r5 : w5.cell? ⟨w1.heap.size + 1, 5, none⟩ = some (.bool true) := by have := HR5.out.cell 5; rw [this]; show some (Value.bool c.under) = _; rw [HU.out]
            have fr : ∀ j, w5.frozen? ⟨w1.heap.size + 1, j, none⟩ = false := fun j => HR5.out.frozen j
            go_upto_region 24 with (fail)
            have HR6 : Hid (RefAt (w5.setCell ⟨w1.heap.size + 1, 5, none⟩ (.bool true)) (w1.heap.size + 1) c) := Lib.hid (by have := Blk.set HR5.out 5 (.bool true); rw [show c.refCells.set 5 (.bool true) = Cl.refCells c from (by unfold Cl.refCells; rw [HU.out]; rfl)] at this; exact this)
            have HC6 : Hid (CallerAt (w5.setCell ⟨w1.heap.size + 1, 5, none⟩ (.bool true)) w1.heap.size c) := Lib.hid (Blk.other HC5.out _ _ (by show w1.heap.size ≠ w1.heap.size + 1; omega))
            have HF6 := Lib.hid (HF5.out.setCell ⟨w1.heap.size + 1, 5, none⟩ (.bool true) fun _ => .inr rfl)
            clear r5 fr eg
            generalize w5.setCell ⟨w1.heap.size + 1, 5, none⟩ (.bool true) = w6 at HR6 HC6 HF6 ⊢
            go_wp2_with fail
            refine (call_any w1.heap.size c _ HC6.out).mono ?_
            rintro e wc ⟨rfl, nq, rfl⟩
            have q2 : (w6.drewN nq).cell? ⟨w1.heap.size + 1, 2, none⟩ = some (.int .i64 (c).call) := (Blk.drewN HR6.out nq).cell 2
            have q5 : (w6.drewN nq).cell? ⟨w1.heap.size + 1, 5, none⟩ = some (.bool (c).under) := (Blk.drewN HR6.out nq).cell 5
            have HCz : Hid (CallerAt (w6.drewN nq) w1.heap.size (c)) := Lib.hid (Blk.drewN HC6.out nq)
            have HRz : Hid (RefAt (w6.drewN nq) (w1.heap.size + 1) (c)) := Lib.hid (Blk.drewN HR6.out nq)
            have HFz := Lib.hid (HF6.out.drewN nq)
            generalize w6.drewN nq = wz at q2 q5 HCz HRz HFz ⊢
            go_wp2_with fail
            go_roundg (sl - (k + 1))
            case measure => omega
            case rel => exact ⟨k + 1, _, val_int (by omega), by omega, rfl, Lib.hid HW.out, HCz, HRz, HFz⟩
    · obtain rfl : k = sl := by omega
      go_wp2_with fail
      go_ret
      exact ⟨rfl, HB3.out.trans (HF.out.below (fun j _ e => by rcases e with rfl | rfl; exact hsz; omega) (by omega))⟩
end Go.Proofs.Ytlndnjpgpbeeeaa
