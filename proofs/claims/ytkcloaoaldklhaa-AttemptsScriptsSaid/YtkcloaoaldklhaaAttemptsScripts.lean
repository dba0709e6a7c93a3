/- AttemptsScripts: every script of attempts: the walk. -/
import Derived.Test.YtkcloaoaldklhaaAttScr
namespace Go.Proofs.Ytkcloaoaldklhaa
open Go.RowKit
set_option linter.unusedVariables false
set_option linter.unusedSimpArgs false
def RPair (_ : World) (cs : List Value) (p : Int × Int) : Prop := cs = [.int .i64 p.1, .int .i64 p.2] ∧ True
theorem opens_pair (w : World) : Opens Try.prog w 39 RPair (fun p => vbulk [.int .i64 p.1, .int .i64 p.2]) :=
  opens_flat (n := 4) (ks := [.int .i64, .int .i64]) (by kernel_rfl) (fun p : Int × Int => [.int .i64 p.1, .int .i64 p.2]) (fun _ => True) fun cs h => by
    obtain ⟨a, d1, rfl, _, _, h1⟩ := h.i64_inv
    obtain ⟨b, d2, rfl, _, _, h2⟩ := h1.i64_inv
    obtain rfl := h2.nil_inv
    exact ⟨(a, b), rfl, trivial⟩
set_option maxRecDepth 20000 in
set_option maxHeartbeats 8000000 in
theorem attemptsScripts_walk (W : World) (cp : Array Value) (p : Int × Int) (hp : RPair W cp.toList p) (cq : Array Value) (q : Int × Int) (hq : RPair W cq.toList q) (sa : Option Addr) (n sc : Nat) (xs : List AAct) (hR : RAActs W [.slice sa n sc] xs) :
    Calls Try.prog 5 #[.agg cp, .agg cq, .slice sa n sc] W fun e w' => e = .returned (.bool true) ∧ Below W.heap.size W w' := by
  obtain ⟨sm, sr⟩ := p
  obtain ⟨sl, sp⟩ := q
  obtain rfl : cp = #[.int .i64 sm, .int .i64 sr] := Array.toList_inj.1 hp.1
  obtain rfl : cq = #[.int .i64 sl, .int .i64 sp] := Array.toList_inj.1 hq.1
  obtain ⟨hn, hnc, hcb, hcm, hel⟩ := rsl_get hR
  have HEL := Lib.hid hel
  have HBN : Hid (n ≤ 2932031007317) := Lib.hid (by omega)
  have HNC : Hid (xs.length = n) := Lib.hid hn
  clear hR hn hnc hcb hcm hel hp hq
  go_enter Try.func5, Try.ntmps5
  have hB0 : Hid (Blk ((W.alloc (.cells #[.int .i64 sm, .int .i64 sr] 39)).alloc (.cells #[.int .i64 sl, .int .i64 sp] 39)) W.heap.size [.int .i64 sm, .int .i64 sr] 39) := Lib.hid ((Blk.new W [.int .i64 sm, .int .i64 sr] 39).alloc _)
  have hB1 : Hid (Blk ((W.alloc (.cells #[.int .i64 sm, .int .i64 sr] 39)).alloc (.cells #[.int .i64 sl, .int .i64 sp] 39)) (W.heap.size + 1) [.int .i64 sl, .int .i64 sp] 39) := Lib.hid (by
    have := Blk.new (W.alloc (.cells #[.int .i64 sm, .int .i64 sr] 39)) [.int .i64 sl, .int .i64 sp] 39
    rw [World.size_alloc] at this
    exact this)
  have hb0 : Hid (Below W.heap.size W ((W.alloc (.cells #[.int .i64 sm, .int .i64 sr] 39)).alloc (.cells #[.int .i64 sl, .int .i64 sp] 39))) := Lib.hid (((Below.refl W.heap.size W).alloc (Nat.le_refl _) _).alloc (by simp) _)
  go_upto_region 1 with (fail)
  generalize (W.alloc (.cells #[.int .i64 sm, .int .i64 sr] 39)).alloc (.cells #[.int .i64 sl, .int .i64 sp] 39) = w1 at hB0 hB1 hb0 ⊢
  go_wp2_with fail
  refine (atSpeaks_any w1).mono ?_
  rintro _ w2 ⟨rfl, hb⟩
  have HB := Lib.hid (below_then hb0.out hb0.out.size hb)
  have HC0 := Lib.hid (hB0.out.below hb hB0.out.lt)
  have HC1 := Lib.hid (hB1.out.below hb hB1.out.lt)
  clear hb hb0 hB0 hB1 w1
  obtain ⟨big, hbig⟩ : ∃ big : Bool, big = (decide (300 < sm) || decide (300 < sr)) := ⟨_, rfl⟩
  have HBG := Lib.hid hbig
  clear hbig
  have z0 : ∀ j, w2.cell? ⟨W.heap.size, j, none⟩ = [Value.int .i64 sm, .int .i64 sr][j]? := fun j => HC0.out.cell j
  go_upto_region 3 with (fail)
  go_cut [26] from 19 to 26 (fun v wc => w2 = wc ∧ v = .bool big)
  case first =>
    by_cases h0 : 300 < sm
    · have t0 : decide (300 < sm) = true := decide_eq_true h0
      have HC : Hid (big = true) := Lib.hid (by rw [HBG.out, t0]; rfl)
      clear h0
      go_wp2
      go_meet
      exact ⟨rfl, by rw [HC.out]⟩
    · have t0 : decide (300 < sm) = false := decide_eq_false h0
      have HC : Hid (big = decide (300 < sr)) := Lib.hid (by rw [HBG.out, t0]; rfl)
      clear h0
      go_wp2
      go_meet
      exact ⟨rfl, by rw [HC.out]⟩
  case rest =>
    obtain ⟨rfl, rfl⟩ := hcut
    clear HBG
    cases big with
    | true =>
      have S0 : Hid (Below w2.heap.size w2 w2) := Lib.hid (Below.refl _ _)
      go_wp2_with fail
      refine (new_c sm sr 1 1 w2).mono ?_
      intro e w3 h3
      obtain ⟨b, g, vs, rfl, hbd, hnv, hb1, hg1, hbe⟩ := h3
      have HBD := Lib.hid hbd
      have HB3 := Lib.hid (below_then HB.out HB.out.size hbe)
      clear hbd hnv hb1 hg1 hbe z0
      have HRL := Lib.hid (ready_new sm sr)
      have HOK := Lib.hid (new_ok sm sr 1 1 0)
      have HDD : Hid ((At.new sm sr 1 1).dead = false) := Lib.hid rfl
      have hd := dead_c b g vs _ w3 HBD.out
      rw [HDD.out] at hd
      have HD := Lib.hid hd
      have HRY := Lib.hid (ready_any b g vs _ 0 HOK.out (by decide) 0 0 w3 HBD.out)
      generalize At.ready (At.new sm sr 1 1) 0 0 = lst at HRL HRY
      clear hd
      go_wp2_with fail
      refine HD.out.mono ?_
      rintro _ _ ⟨rfl, rfl⟩
      go_wp2_with fail
      refine HRY.out.mono ?_
      intro e w4 h4
      obtain ⟨v4, rfl, ho, hbe⟩ := h4
      obtain ⟨A4, c4, rfl⟩ := own_slice ho
      have HB4 := Lib.hid (below_then HB3.out HB3.out.size hbe)
      have l1 : decide ((lst.length : Int) ≤ 4096) = true := decide_eq_true (by have := HRL.out; omega)
      have l2 : decide (lst.length ≤ 4096) = true := decide_eq_true HRL.out
      clear ho hbe HD HRY
      go_wp2_with fail
      go_ret
      exact ⟨rfl, HB4.out⟩
    | false =>
      go_upto_region 6 with (fail)
      have A0 : ∀ X, Below w2.heap.size w2 X → ∀ j, X.cell? ⟨W.heap.size, j, none⟩ = [Value.int .i64 sm, .int .i64 sr][j]? := fun X h => (HC0.out.below h HC0.out.lt).cell
      have A1 : ∀ X, Below w2.heap.size w2 X → ∀ j, X.cell? ⟨W.heap.size + 1, j, none⟩ = [Value.int .i64 sl, .int .i64 sp][j]? := fun X h => (HC1.out.below h HC1.out.lt).cell
      have HK : Hid (∀ X Y, Below w2.heap.size w2 X → Below X.heap.size X Y → Below w2.heap.size w2 Y) := Lib.hid fun X Y h k => below_then h h.size k
      have HSZ : Hid (∀ X, Below w2.heap.size w2 X → W.heap.size ≤ X.heap.size) := Lib.hid fun X h => Nat.le_trans HB.out.size h.size
      have S0 : Hid (Below w2.heap.size w2 w2.drew) := Lib.hid (below_drewN (Below.refl w2.heap.size w2) 1)
      clear z0
      go_region_held3 (fun X => Below w2.heap.size w2 X)
        (with_reducible first | exact S0.out | assumption)
        (first
          | (go_at_call 8; (with_reducible refine (new_c sm sr sl sp _).mono ?_); rintro _ w3 ⟨b, g, vs, rfl, hbd, hnv, hb1, hg1, hbe⟩; have HBD := Lib.hid hbd; have HNV := Lib.hid hnv; have HB1 := Lib.hid hb1; have HG1 := Lib.hid hg1; have hs := HK.out _ _ (by assumption) hbe; have HS3 := Lib.hid hs; clear hbd hnv hb1 hg1 hbe)
          | (go_at_call 17; (with_reducible refine (rnew_c sm sr sl sp W.heap.size _ (HSZ.out _ (by assumption))).mono ?_); rintro _ w4 ⟨rt, rfl, hrf, hrt, hbe⟩; have HRF := Lib.hid hrf; have HRT := Lib.hid hrt; have HBE := Lib.hid hbe; have hs4 := HK.out _ _ (by assumption) hbe; have HS4 := Lib.hid hs4; clear hrf hrt hbe))
      have P0 : Hid (Sp W w4 b g vs (At.new sm sr sl sp) 0 rt (.slice none 0 0) (Ar.new sm sr sl sp)) := Lib.hid (by
        have h2 : w2.drew.heap.size = w2.heap.size := rfl
        have e1 := HB1.out
        have e2 := HG1.out
        rw [h2] at e1 e2
        have e3 := HB.out.size
        have hc : ∀ x, 0 ≤ At.clamp x 0 4096 ∧ At.clamp x 0 4096 ≤ 4096 := fun x => by unfold At.clamp; omega
        have hp : 1 ≤ At.clamp sp 1 1099511627776 ∧ At.clamp sp 1 1099511627776 ≤ 1099511627776 := by unfold At.clamp; omega
        refine ⟨HBD.out.below HBE.out (Nat.le_refl _), new_ok _ _ _ _ _, HRF.out, ARel.new _ _ _ _, Nat.le_refl _, ⟨by have := hc sm; show (At.clamp sm 0 4096).toNat ≤ 5000; omega, by have := hc sr; show (At.clamp sr 0 4096).toNat ≤ 5000; omega⟩, hp, Off.fresh HBD.out HRT.out HRF.out.blk.lt, (fun q e => by cases e), ⟨by omega, by omega, fun v hv q hq => by rw [HNV.out v hv] at hq; cases hq⟩, HB.out.trans (HS4.out.mono e3)⟩)
      clear HBD HNV HB1 HG1 hs HS3 HRF HRT HBE hs4 HS4 A0 A1 HK HSZ S0 HC0 HC1 HB
      generalize At.new sm sr sl sp = S0 at P0
      generalize Ar.new sm sr sl sp = R0 at P0
      go_wp2_with fail
      go_loopg [10] n (fun gg iv wr => ∃ (k : Nat) (vs : List Value) (S : At.Bd) (v : Value) (R : Ar.Bd), iv = .int .i64 k ∧ k ≤ n ∧ gg = n - k ∧ Hid (Sp W wr b g vs S k rt v R))
      case atStart => exact ⟨0, vs, S0, _, R0, rfl, Nat.zero_le _, rfl, P0⟩
      case round =>
        clear P0 S0 R0
        clear vs
        obtain ⟨k, vs, S, v, R, rfl, hk, hg, P⟩ := hrel
        subst hg
        have HK : Hid (k ≤ n) := Lib.hid hk
        clear hk
        by_cases h : k < n
        · obtain ⟨x, hx⟩ : ∃ x, xs[k]? = some x := ⟨xs[k]'(by have := HNC.out; omega), List.getElem?_eq_getElem _⟩
          have t1 : decide ((k : Int) < (n : Int)) = true := decide_eq_true (by omega)
          have t1n : decide (k < n) = true := decide_eq_true h
          obtain ⟨ba, off, rfl, hbW, hxw, hcell⟩ := HEL.out k x hx
          have hcw : ∀ (i : Nat) (v : Value), x.cells[i]? = some v → wr.cell? ⟨ba, off + (k * 6 + i), none⟩ = some v := fun i v hv => by
            rw [← hcell i v hv]
            exact World.cell?_of_block (P.out.below.block ba hbW)
          have d0 : wr.cell? ⟨ba, off + k * 6, none⟩ = some (.int .i64 x.what) := hcw 0 _ rfl
          have d1 : wr.cell? ⟨ba, off + k * 6 + 1, none⟩ = some (.int .i64 x.task) := hcw 1 _ rfl
          have d2 : wr.cell? ⟨ba, off + k * 6 + 2, none⟩ = some (.int .i64 x.node) := hcw 2 _ rfl
          have d3 : wr.cell? ⟨ba, off + k * 6 + 3, none⟩ = some (.int .i64 x.now) := hcw 3 _ rfl
          have d4 : wr.cell? ⟨ba, off + k * 6 + 4, none⟩ = some (.int .i64 x.att) := hcw 4 _ rfl
          have d5 : wr.cell? ⟨ba, off + k * 6 + 5, none⟩ = some (.int .i64 x.how) := hcw 5 _ rfl
          obtain ⟨q, hq, hqc⟩ := tmod6 x.what hxw.w1 hxw.w2
          have HLK := Lib.hid h
          clear hcw hcell hx hxw h
          obtain ⟨what, tt, tn, tw, ta, th⟩ := x
          dsimp only at *
          go_upto_region 11 with (fail)
          have MX := Lib.hid (P.out.act [.int .i64 what, .int .i64 tt, .int .i64 tn, .int .i64 tw, .int .i64 ta, .int .i64 th])
          change Code.wp _ _ _ _ (wr.alloc (.cells ([.int .i64 what, .int .i64 tt, .int .i64 tn, .int .i64 tw, .int .i64 ta, .int .i64 th] : List Value).toArray 28))
          generalize wr.alloc (.cells ([.int .i64 what, .int .i64 tt, .int .i64 tn, .int .i64 tw, .int .i64 ta, .int .i64 th] : List Value).toArray 28) = wx at MX ⊢
          have i0 : wx.cell? ⟨wr.heap.size, 0, none⟩ = some (.int .i64 what) := MX.out.act.cell 0
          clear d0 d1 d2 d3 d4 d5 P HEL
          generalize wr.heap.size = ga at MX i0 ⊢
          go_upto_block 2 with (fail)
          go_cut [12] (fun okv wc => okv = .bool true ∧ ∃ (vs' : List Value) (S' : At.Bd) (v' : Value) (R' : Ar.Bd), Hid (Sq W wc b g vs' S' (k + 1) rt v' R' ga [.int .i64 what, .int .i64 tt, .int .i64 tn, .int .i64 tw, .int .i64 ta, .int .i64 th]))
          case first =>
            have HKN : Hid (k ≤ 5000000000000) := Lib.hid (by have := HLK.out; have := HBN.out; omega)
            have MY := Lib.hid (MX.out.fr (((Fr.refl wx (fun _ => False)).drewN 1)))
            have Z0 : ∀ j, wx.drew.cell? ⟨ga, j, none⟩ = [Value.int .i64 what, .int .i64 tt, .int .i64 tn, .int .i64 tw, .int .i64 ta, .int .i64 th][j]? := MX.out.act.cell
            rcases hqc with rfl | rfl | rfl | rfl | rfl | rfl
            · as_aux_lemma =>
                clear hq
                obtain ⟨hs1, hs2⟩ := rel_start MX.out.rel MX.out.ok tt tn tw
                have HREL := Lib.hid hs2
                have HOK := Lib.hid (start_bok MX.out.ok tt tn tw)
                have HSM := Lib.hid (rstart_same R tt tn tw)
                have hc1 := start_c b g vs S tt tn tw wx.drew MY.out.bd k (MX.out.ok.use (by have := HKN.out; omega)) (by have := HKN.out; omega)
                have HC2 : Hid (∀ wq, RefAt wq W.heap.size rt v R → Calls Try.prog 18 #[.pointer (some ⟨rt, 0, none⟩), .int .i64 tt, .int .i64 tn, .int .i64 tw] wq fun e w' => e = .returned (.int .i64 (At.start S tt tn tw).1) ∧ RefTo wq W.heap.size rt v (Ar.start R tt tn tw).2 w') := Lib.hid fun wq hw => by
                  rw [← hs1]
                  exact rstart_c W.heap.size rt v R tt tn tw wq hw (by have := MX.out.ll; have := HLK.out; have := HBN.out; omega) MX.out.mr.1 MX.out.mr.2
                have hbb : ((At.start S tt tn tw).1 == (At.start S tt tn tw).1) = true := by simp
                generalize (At.start S tt tn tw).1 = val at hc1 HC2 hbb
                generalize (At.start S tt tn tw).2 = S2 at hc1 HREL HOK
                generalize (Ar.start R tt tn tw).2 = R2 at HC2 HREL HSM
                have HC1 := Lib.hid hc1
                clear hs1 hs2 hc1
                go_upto_region 15 with (fail)
                clear i0
                go_region_held3 (fun w' => ∀ j, w'.cell? ⟨ga, j, none⟩ = [Value.int .i64 what, .int .i64 tt, .int .i64 tn, .int .i64 tw, .int .i64 ta, .int .i64 th][j]?)
                  (with_reducible first | exact Z0 | exact Z1 | exact Z2 | assumption)
                  (first
                    | (go_at_call 9; (with_reducible refine HC1.out.mono ?_); rintro e w5 ⟨rfl, h5⟩; have hm := MY.out.mid h5; have HB5 := Lib.hid h5; have HM5 := Lib.hid hm.1; have Z1 : ∀ j, w5.cell? ⟨ga, j, none⟩ = [Value.int .i64 what, .int .i64 tt, .int .i64 tn, .int .i64 tw, .int .i64 ta, .int .i64 th][j]? := hm.2.cell; clear h5 hm)
                    | (go_at_call 18; (with_reducible refine (HC2.out _ HM5.out).mono ?_); rintro e w6 ⟨rfl, h6⟩; obtain ⟨vs6, v6, K6⟩ := MY.out.next HB5.out h6 HOK.out HREL.out (by have := HSM.out.len; have := MX.out.ll; omega) HSM.out.mr; have M6 := Lib.hid K6; have Z2 : ∀ j, w6.cell? ⟨ga, j, none⟩ = [Value.int .i64 what, .int .i64 tt, .int .i64 tn, .int .i64 tw, .int .i64 ta, .int .i64 th][j]? := K6.act.cell; clear h6 K6))
                go_wp2_with fail
                go_meet
                exact ⟨by first | rfl | rw [hbb], vs6, S2, v6, R2, M6⟩
            · as_aux_lemma =>
                clear hq
                obtain ⟨hs1, hs2⟩ := rel_start MX.out.rel MX.out.ok tt tn tw
                have HREL := Lib.hid hs2
                have HOK := Lib.hid (start_bok MX.out.ok tt tn tw)
                have HSM := Lib.hid (rstart_same R tt tn tw)
                have hc1 := start_c b g vs S tt tn tw wx.drew MY.out.bd k (MX.out.ok.use (by have := HKN.out; omega)) (by have := HKN.out; omega)
                have HC2 : Hid (∀ wq, RefAt wq W.heap.size rt v R → Calls Try.prog 18 #[.pointer (some ⟨rt, 0, none⟩), .int .i64 tt, .int .i64 tn, .int .i64 tw] wq fun e w' => e = .returned (.int .i64 (At.start S tt tn tw).1) ∧ RefTo wq W.heap.size rt v (Ar.start R tt tn tw).2 w') := Lib.hid fun wq hw => by
                  rw [← hs1]
                  exact rstart_c W.heap.size rt v R tt tn tw wq hw (by have := MX.out.ll; have := HLK.out; have := HBN.out; omega) MX.out.mr.1 MX.out.mr.2
                have hbb : ((At.start S tt tn tw).1 == (At.start S tt tn tw).1) = true := by simp
                generalize (At.start S tt tn tw).1 = val at hc1 HC2 hbb
                generalize (At.start S tt tn tw).2 = S2 at hc1 HREL HOK
                generalize (Ar.start R tt tn tw).2 = R2 at HC2 HREL HSM
                have HC1 := Lib.hid hc1
                clear hs1 hs2 hc1
                go_upto_region 15 with (fail)
                clear i0
                go_region_held3 (fun w' => ∀ j, w'.cell? ⟨ga, j, none⟩ = [Value.int .i64 what, .int .i64 tt, .int .i64 tn, .int .i64 tw, .int .i64 ta, .int .i64 th][j]?)
                  (with_reducible first | exact Z0 | exact Z1 | exact Z2 | assumption)
                  (first
                    | (go_at_call 9; (with_reducible refine HC1.out.mono ?_); rintro e w5 ⟨rfl, h5⟩; have hm := MY.out.mid h5; have HB5 := Lib.hid h5; have HM5 := Lib.hid hm.1; have Z1 : ∀ j, w5.cell? ⟨ga, j, none⟩ = [Value.int .i64 what, .int .i64 tt, .int .i64 tn, .int .i64 tw, .int .i64 ta, .int .i64 th][j]? := hm.2.cell; clear h5 hm)
                    | (go_at_call 18; (with_reducible refine (HC2.out _ HM5.out).mono ?_); rintro e w6 ⟨rfl, h6⟩; obtain ⟨vs6, v6, K6⟩ := MY.out.next HB5.out h6 HOK.out HREL.out (by have := HSM.out.len; have := MX.out.ll; omega) HSM.out.mr; have M6 := Lib.hid K6; have Z2 : ∀ j, w6.cell? ⟨ga, j, none⟩ = [Value.int .i64 what, .int .i64 tt, .int .i64 tn, .int .i64 tw, .int .i64 ta, .int .i64 th][j]? := K6.act.cell; clear h6 K6))
                go_wp2_with fail
                go_meet
                exact ⟨by first | rfl | rw [hbb], vs6, S2, v6, R2, M6⟩
            · as_aux_lemma =>
                clear hq
                obtain ⟨hs1, hs2⟩ := rel_report MX.out.rel MX.out.ok tt ta th
                have HREL := Lib.hid hs2
                have HOK := Lib.hid ((report_bok MX.out.ok tt ta th).mono (Nat.le_succ k))
                have HSM := Lib.hid (rreport_same R tt ta th)
                have hc1 := report_c b g vs S tt ta th wx.drew MY.out.bd k (MX.out.ok.use (by have := HKN.out; omega)) (by have := HKN.out; omega)
                have HC2 : Hid (∀ wq, RefAt wq W.heap.size rt v R → Calls Try.prog 19 #[.pointer (some ⟨rt, 0, none⟩), .int .i64 tt, .int .i64 ta, .int .i64 th] wq fun e w' => e = .returned (.bool (At.report S tt ta th).1) ∧ RefTo wq W.heap.size rt v (Ar.report R tt ta th).2 w') := Lib.hid fun wq hw => by
                  rw [← hs1]
                  exact rreport_c W.heap.size rt v R tt ta th wq hw (by have := MX.out.ll; have := HLK.out; have := HBN.out; omega)
                have hbb : ((At.report S tt ta th).1 == (At.report S tt ta th).1) = true := by simp
                generalize (At.report S tt ta th).1 = val at hc1 HC2 hbb
                generalize (At.report S tt ta th).2 = S2 at hc1 HREL HOK
                generalize (Ar.report R tt ta th).2 = R2 at HC2 HREL HSM
                have HC1 := Lib.hid hc1
                clear hs1 hs2 hc1
                go_upto_region 17 with (fail)
                clear i0
                go_region_held3 (fun w' => ∀ j, w'.cell? ⟨ga, j, none⟩ = [Value.int .i64 what, .int .i64 tt, .int .i64 tn, .int .i64 tw, .int .i64 ta, .int .i64 th][j]?)
                  (with_reducible first | exact Z0 | exact Z1 | exact Z2 | assumption)
                  (first
                    | (go_at_call 10; (with_reducible refine HC1.out.mono ?_); rintro e w5 ⟨rfl, h5⟩; have hm := MY.out.mid h5; have HB5 := Lib.hid h5; have HM5 := Lib.hid hm.1; have Z1 : ∀ j, w5.cell? ⟨ga, j, none⟩ = [Value.int .i64 what, .int .i64 tt, .int .i64 tn, .int .i64 tw, .int .i64 ta, .int .i64 th][j]? := hm.2.cell; clear h5 hm)
                    | (go_at_call 19; (with_reducible refine (HC2.out _ HM5.out).mono ?_); rintro e w6 ⟨rfl, h6⟩; obtain ⟨vs6, v6, K6⟩ := MY.out.next HB5.out h6 HOK.out HREL.out (by have := HSM.out.len; have := MX.out.ll; omega) HSM.out.mr; have M6 := Lib.hid K6; have Z2 : ∀ j, w6.cell? ⟨ga, j, none⟩ = [Value.int .i64 what, .int .i64 tt, .int .i64 tn, .int .i64 tw, .int .i64 ta, .int .i64 th][j]? := K6.act.cell; clear h6 K6))
                go_wp2_with fail
                go_meet
                exact ⟨by first | rfl | rw [hbb], vs6, S2, v6, R2, M6⟩
            · as_aux_lemma =>
                clear hq
                have HREL := Lib.hid (rel_gone MX.out.rel MX.out.ok tn)
                have HOK := Lib.hid ((gone_bok MX.out.ok tn).mono (Nat.le_succ k))
                have HSM := Lib.hid (rgone_same R tn)
                have HC1 := Lib.hid (gone_c b g vs S MX.out.ok.len (fun k hk => by have := (MX.out.ok.tk k hk).len; have := HKN.out; omega) tn wx MX.out.bd)
                have j2 : wx.cell? ⟨ga, 2, none⟩ = some (.int .i64 tn) := MX.out.act.cell 2
                go_wp2_with fail
                refine HC1.out.mono ?_
                rintro e w5 ⟨rfl, h5, h6⟩
                have hm := MX.out.mid ⟨vs, h5, h6⟩
                have HM5 := Lib.hid hm.1
                have HB5 : Hid (BoardTo wx b g vs (At.gone S tn) w5) := Lib.hid ⟨vs, h5, h6⟩
                have j3 : w5.cell? ⟨ga, 2, none⟩ = some (.int .i64 tn) := hm.2.cell 2
                clear h5 h6 hm j2 i0
                go_wp2_with fail
                refine (rgone_c W.heap.size rt v R tn w5 HM5.out (by have := MX.out.ll; have := HLK.out; have := HBN.out; omega)).mono ?_
                rintro e w6 ⟨rfl, h6⟩
                obtain ⟨vs6, v6, K6⟩ := MX.out.next HB5.out h6 HOK.out HREL.out (by have := HSM.out.len; have := MX.out.ll; omega) HSM.out.mr
                have M6 := Lib.hid K6
                clear h6 K6 j3
                go_wp2_with fail
                go_meet
                exact ⟨rfl, vs6, _, v6, _, M6⟩
            · as_aux_lemma =>
                clear hq
                obtain ⟨hs1, hs2⟩ := rel_lost MX.out.rel MX.out.ok tt ta
                have HREL := Lib.hid hs2
                have HOK := Lib.hid ((lost_bok MX.out.ok tt ta).mono (Nat.le_succ k))
                have HSM := Lib.hid (rlost_same R tt ta)
                have hc1 := lost_c b g vs S MX.out.ok.win tt ta wx.drew MY.out.bd k (MX.out.ok.use (by have := HKN.out; omega)) (by have := HKN.out; omega)
                have HC2 : Hid (∀ wq, RefAt wq W.heap.size rt v R → Calls Try.prog 21 #[.pointer (some ⟨rt, 0, none⟩), .int .i64 tt, .int .i64 ta] wq fun e w' => e = .returned (.bool (At.lost S tt ta).1) ∧ RefTo wq W.heap.size rt v (Ar.lost R tt ta).2 w') := Lib.hid fun wq hw => by
                  rw [← hs1]
                  exact rlost_c W.heap.size rt v R tt ta wq hw (by have := MX.out.ll; have := HLK.out; have := HBN.out; omega)
                have hbb : ((At.lost S tt ta).1 == (At.lost S tt ta).1) = true := by simp
                generalize (At.lost S tt ta).1 = val at hc1 HC2 hbb
                generalize (At.lost S tt ta).2 = S2 at hc1 HREL HOK
                generalize (Ar.lost R tt ta).2 = R2 at HC2 HREL HSM
                have HC1 := Lib.hid hc1
                clear hs1 hs2 hc1
                go_upto_region 22 with (fail)
                clear i0
                go_region_held3 (fun w' => ∀ j, w'.cell? ⟨ga, j, none⟩ = [Value.int .i64 what, .int .i64 tt, .int .i64 tn, .int .i64 tw, .int .i64 ta, .int .i64 th][j]?)
                  (with_reducible first | exact Z0 | exact Z1 | exact Z2 | assumption)
                  (first
                    | (go_at_call 12; (with_reducible refine HC1.out.mono ?_); rintro e w5 ⟨rfl, h5⟩; have hm := MY.out.mid h5; have HB5 := Lib.hid h5; have HM5 := Lib.hid hm.1; have Z1 : ∀ j, w5.cell? ⟨ga, j, none⟩ = [Value.int .i64 what, .int .i64 tt, .int .i64 tn, .int .i64 tw, .int .i64 ta, .int .i64 th][j]? := hm.2.cell; clear h5 hm)
                    | (go_at_call 21; (with_reducible refine (HC2.out _ HM5.out).mono ?_); rintro e w6 ⟨rfl, h6⟩; obtain ⟨vs6, v6, K6⟩ := MY.out.next HB5.out h6 HOK.out HREL.out (by have := HSM.out.len; have := MX.out.ll; omega) HSM.out.mr; have M6 := Lib.hid K6; have Z2 : ∀ j, w6.cell? ⟨ga, j, none⟩ = [Value.int .i64 what, .int .i64 tt, .int .i64 tn, .int .i64 tw, .int .i64 ta, .int .i64 th][j]? := K6.act.cell; clear h6 K6))
                go_wp2_with fail
                go_meet
                exact ⟨by first | rfl | rw [hbb], vs6, S2, v6, R2, M6⟩
            · as_aux_lemma =>
                clear hq
                go_wp2_with fail
                go_meet
                exact ⟨rfl, vs, S, v, R, Lib.hid (MX.out.mono (Nat.le_succ k))⟩
          case rest =>
            obtain ⟨rfl, vs2, S2, v2, R2, M2⟩ := hcut
            clear MX i0 hq hqc
            clear v R S
            clear vs
            have HKN : Hid (k + 1 ≤ 2932031007317) := Lib.hid (by have := HLK.out; have := HBN.out; omega)
            have HWC := Lib.hid (winner_c b g vs2 S2 (M2.out.ok.use (by have := HKN.out; omega)).wf M2.out.ok.win tt wc M2.out.bd)
            have HRW := Lib.hid (rwin_c W.heap.size rt v2 R2 tt wc M2.out.rf (by have := HKN.out; have := M2.out.ll; omega))
            obtain ⟨hw1, hw2, hw3⟩ := who M2.out.rel M2.out.ok (t := tt)
            have i1 : wc.cell? ⟨ga, 1, none⟩ = some (.int .i64 tt) := M2.out.act.cell 1
            go_wp2_with fail
            refine HWC.out.mono ?_
            rintro _ _ ⟨rfl, rfl⟩
            go_wp2_with fail
            refine HRW.out.mono ?_
            rintro _ _ ⟨rfl, rfl⟩
            clear HWC HRW
            generalize At.winner S2 tt = wt at hw1 hw2 hw3
            obtain ⟨nd, nn, dn⟩ := wt
            dsimp only at hw1 hw2 hw3 ⊢
            generalize hixx : Ar.idx (Ar.hit tt) R2.l = ix
            go_upto_region 25 with (fail)
            go_cut [196] from 144 to 196 (fun v wq => wc = wq ∧ v = .bool false)
            case first =>
              rcases find_of (Ar.hit tt) R2.l with ⟨hf, hn⟩ | ⟨p, x, hf, hx, hfx⟩
              · have hwn : Ar.won R2 tt = false := by
                  unfold Ar.won
                  rw [List.any_eq_false]
                  intro y hy
                  rw [hn y hy]
                  exact Bool.false_ne_true
                obtain ⟨rfl, rfl⟩ := hw3 hwn
                obtain rfl : dn = false := hw1.symm.trans hwn
                obtain rfl : ix = -1 := by rw [← hixx]; unfold Ar.idx; rw [hf]
                clear hw1 hw2 hw3 hwn hf hn hixx
                go_wp2
                go_meet
                exact ⟨rfl, rfl⟩
              · have hwn : Ar.won R2 tt = true := List.any_eq_true.2 ⟨x, List.mem_of_getElem? hx, hfx⟩
                obtain ⟨rfl, rfl⟩ := hw2 p x hf hx
                obtain rfl : dn = true := hw1.symm.trans hwn
                obtain rfl : ix = (p : Int) := by rw [← hixx]; unfold Ar.idx; rw [hf]
                have hpl := (List.getElem?_eq_some_iff.1 hx).1
                obtain ⟨gg, cap, hv, _, _, ⟨c0, c1, c2, c3, c4, c5⟩, _⟩ := M2.out.rf.at hx
                have z4 : wc.cell? ⟨rt, 4, none⟩ = some (.slice (some ⟨gg, 0, none⟩) R2.l.length cap) := by rw [← hv]; exact M2.out.rf.blk.cell 4
                have pa : ((p : Int)).toNat = p := by omega
                have pp : (0 : Int) ≤ (p : Int) := by omega
                have pz : (p : Int) < (R2.l.length : Int) := by omega
                have pn : decide ((0 : Int) ≤ (p : Int)) = true := decide_eq_true pp
                have e1 : (x.node != x.node) = false := by simp
                have e2 : (x.num != x.num) = false := by simp
                clear hw1 hw2 hw3 hwn hf hixx hx hfx hpl hv
                go_wp2
                go_meet
                exact ⟨rfl, rfl⟩
            case rest =>
              obtain ⟨rfl, rfl⟩ := hcut
              clear hw1 hw2 hw3 i1 hixx
              go_wp2_with fail
              as_aux_lemma =>
                go_upto_region 27 with (fail)
                have HSQ : Hid (∀ X, Below wc.heap.size wc X → Sq W X b g vs2 S2 (k + 1) rt v2 R2 ga [Value.int .i64 what, .int .i64 tt, .int .i64 tn, .int .i64 tw, .int .i64 ta, .int .i64 th]) := Lib.hid fun X h => M2.out.fr (Fr.of_below h fun q h1 h2 => absurd h2 (Nat.not_lt.2 h1))
                have hre := ready_eq M2.out.rel M2.out.ok tn tw
                have hfe := fin_eq M2.out.rel M2.out.ok
                have hde := dead_eq M2.out.rel M2.out.ok
                have HRY : Hid (∀ X, Below wc.heap.size wc X → Calls Try.prog 14 #[.pointer (some ⟨b, 0, none⟩), .int .i64 tn, .int .i64 tw] X (IntsNew X (At.ready S2 tn tw))) := Lib.hid fun X h => ready_any b g vs2 S2 (k + 1) M2.out.ok (by have := HKN.out; omega) tn tw X (HSQ.out X h).bd
                have HQY : Hid (∀ X, Below wc.heap.size wc X → Calls Try.prog 24 #[.pointer (some ⟨rt, 0, none⟩), .int .i64 tn, .int .i64 tw] X (IntsNew X (At.ready S2 tn tw))) := Lib.hid fun X h => by
                  rw [← hre]
                  exact rready_c W.heap.size rt v2 R2 tn tw X (HSQ.out X h).rf (by have := HKN.out; have := M2.out.ll; omega) M2.out.mr.1 M2.out.mr.2 M2.out.pat
                have HFI : Hid (∀ X, Below wc.heap.size wc X → Calls Try.prog 15 #[.pointer (some ⟨b, 0, none⟩)] X fun e w' => e = .returned (.bool (At.fin S2)) ∧ Fr X w' (fun _ => False)) := Lib.hid fun X h => fin_c b g vs2 S2 M2.out.ok.len M2.out.ok.maps X (HSQ.out X h).bd
                have HQF : Hid (∀ X, Below wc.heap.size wc X → Calls Try.prog 25 #[.pointer (some ⟨rt, 0, none⟩)] X fun e w' => e = .returned (.bool (At.fin S2)) ∧ Fr X w' (fun _ => False)) := Lib.hid fun X h => by
                  rw [← hfe]
                  exact (rfin_c W.heap.size rt v2 R2 X (HSQ.out X h).rf (by have := HKN.out; have := M2.out.ll; omega) M2.out.mr.1 M2.out.mr.2).mono fun e w' he => ⟨he.1, he.2.fr⟩
                have HDE : Hid (∀ X, Below wc.heap.size wc X → Calls Try.prog 16 #[.pointer (some ⟨b, 0, none⟩)] X fun e w' => e = .returned (.bool S2.dead) ∧ Fr X w' (fun _ => False)) := Lib.hid fun X h => (dead_c b g vs2 S2 X (HSQ.out X h).bd).mono fun e w' he => ⟨he.1, he.2 ▸ Fr.refl _ _⟩
                have HQD : Hid (∀ X, Below wc.heap.size wc X → Calls Try.prog 26 #[.pointer (some ⟨rt, 0, none⟩)] X fun e w' => e = .returned (.bool S2.dead) ∧ Fr X w' (fun _ => False)) := Lib.hid fun X h => by
                  rw [← hde]
                  exact (rdead_c W.heap.size rt v2 R2 X (HSQ.out X h).rf (by have := HKN.out; have := M2.out.ll; omega) M2.out.mr.1 M2.out.mr.2).mono fun e w' he => ⟨he.1, he.2.fr⟩
                have HLL : Hid ((At.ready S2 tn tw).length ≤ 100000) := Lib.hid (Nat.le_trans (ready_len _ _ _) M2.out.ok.len)
                generalize At.ready S2 tn tw = lst at HRY HQY HLL
                generalize At.fin S2 = fb at HFI HQF
                generalize hdb : S2.dead = db at HDE HQD
                clear hre hfe hde hdb
                have A0 : ∀ X, Below wc.heap.size wc X → ∀ j, X.cell? ⟨ga, j, none⟩ = [Value.int .i64 what, .int .i64 tt, .int .i64 tn, .int .i64 tw, .int .i64 ta, .int .i64 th][j]? := fun X h => (HSQ.out X h).act.cell
                have HK : Hid (∀ X Y, Below wc.heap.size wc X → Below X.heap.size X Y → Below wc.heap.size wc Y) := Lib.hid fun X Y h k => below_then h h.size k
                have S0 : Hid (Below wc.heap.size wc wc.drew) := Lib.hid (below_drewN (Below.refl wc.heap.size wc) 1)
                have x1 : (fb != fb) = false := by cases fb <;> rfl
                have x2 : (db != db) = false := by cases db <;> rfl
                go_region_held3 (fun X => Below wc.heap.size wc X)
                  (with_reducible first | exact S0.out | assumption)
                  (first
                    | (go_at_call 14; (with_reducible refine (HRY.out _ (by assumption)).mono ?_); rintro _ wa ⟨va, rfl, ho, hbe⟩; obtain ⟨qa, ca, rfl⟩ := own_slice ho; obtain ⟨g1, hq1, hl1, hc1⟩ := rows_at ho; have HQ1 := Lib.hid hq1; have HL1 := Lib.hid hl1; have HC1 : Hid (∀ (i : Nat) x, lst[i]? = some x → wa.cell? ⟨g1, i, none⟩ = some (.int .i64 x)) := Lib.hid (fun i x hx => by rw [hc1 i (List.getElem?_eq_some_iff.1 hx).1]; unfold ints; rw [List.getElem?_map, hx]; rfl); have hs1 := HK.out _ _ (by assumption) hbe; clear ho hbe hq1 hl1 hc1)
                    | (go_at_call 24; (with_reducible refine (HQY.out _ (by assumption)).mono ?_); rintro _ wb ⟨vb, rfl, ho, hbe⟩; obtain ⟨qb, cb, rfl⟩ := own_slice ho; obtain ⟨g2, hq2, hl2, hc2⟩ := rows_at ho; have HQ2 := Lib.hid hq2; have HC2 : Hid (∀ (i : Nat) x, lst[i]? = some x → wb.cell? ⟨g2, i, none⟩ = some (.int .i64 x)) := Lib.hid (fun i x hx => by rw [hc2 i (List.getElem?_eq_some_iff.1 hx).1]; unfold ints; rw [List.getElem?_map, hx]; rfl); have HC3 : Hid (∀ (i : Nat) x, lst[i]? = some x → wb.cell? ⟨g1, i, none⟩ = some (.int .i64 x)) := Lib.hid (fun i x hx => (hbe.cell (p := ⟨g1, i, none⟩) (HL1.out (by have := (List.getElem?_eq_some_iff.1 hx).1; omega))).trans (HC1.out i x hx)); have hs2 := HK.out _ _ (by assumption) hbe; clear ho hbe hq2 hl2 hc2)
                    | (go_at_call 23; (with_reducible refine (ints_c g1 lst.length ca g2 cb lst _ rfl (by have := HLL.out; omega) HC3.out HC2.out qa qb HQ1.out HQ2.out).mono ?_); rintro _ wd ⟨rfl, hf⟩; have hs3 := HK.out _ _ (by assumption) (frNone_below hf (Nat.le_refl _)); clear hf)
                    | (go_at_call 15; (with_reducible refine (HFI.out _ (by assumption)).mono ?_); rintro _ we ⟨rfl, hf⟩; have hs4 := HK.out _ _ (by assumption) (frNone_below hf (Nat.le_refl _)); clear hf)
                    | (go_at_call 25; (with_reducible refine (HQF.out _ (by assumption)).mono ?_); rintro _ wf ⟨rfl, hf⟩; have hs5 := HK.out _ _ (by assumption) (frNone_below hf (Nat.le_refl _)); clear hf)
                    | (go_at_call 16; (with_reducible refine (HDE.out _ (by assumption)).mono ?_); rintro _ wg ⟨rfl, hf⟩; have hs6 := HK.out _ _ (by assumption) (frNone_below hf (Nat.le_refl _)); clear hf)
                    | (go_at_call 26; (with_reducible refine (HQD.out _ (by assumption)).mono ?_); rintro _ wh ⟨rfl, hf⟩; have hs7 := HK.out _ _ (by assumption) (frNone_below hf (Nat.le_refl _)); clear hf))
                have MP := Lib.hid (HSQ.out wh hs7).forget
                have kw : k + 1 < 5000000000002 := by have := HKN.out; omega
                clear A0 HK S0 HRY HQY HFI HQF HDE HQD HSQ M2 x1 x2 hs1 hs2 hs3 hs4 hs5 hs6 hs7 HC1 HC2 HC3 HQ1 HQ2 HL1
                go_wp2_with fail
                clear kw
                go_roundg (n - (k + 1))
                case measure => have := HLK.out; omega
                case rel => exact ⟨k + 1, vs2, S2, v2, R2, by first | rfl | go_num, by have := HLK.out; omega, rfl, MP⟩
        · have t1 : decide ((k : Int) < (n : Int)) = false := decide_eq_false (by have := HK.out; omega)
          have t1n : decide (k < n) = false := decide_eq_false h
          have HE := Lib.hid P.out.below
          clear h HEL P
          go_wp2_with fail
          go_ret
          exact ⟨rfl, HE.out⟩
end Go.Proofs.Ytkcloaoaldklhaa
