/- The walk of RpcPatience. -/
import Derived.Test.YtlndnjpgpbeeeaaRpcCaller
namespace Go.Proofs.Ytlndnjpgpbeeeaa
open Go.RowKit Go.Maps
set_option linter.unusedVariables false
theorem tmod_hit {i s w : Int} (hw : 1 ≤ w) (hs : 0 ≤ s) (hm : s.tmod w = 0) (h : i = s + w) : i.tmod w = 0 := by
  subst h
  rw [Int.tmod_eq_emod_of_nonneg (by omega)] at *
  rw [Int.add_emod_right]; exact hm
theorem tmod_miss {i s w : Int} (hw : 1 ≤ w) (hs : 0 ≤ s) (hm : s.tmod w = 0) (h1 : s < i) (h2 : i < s + w) : i.tmod w ≠ 0 := by
  rw [Int.tmod_eq_emod_of_nonneg (by omega)] at *
  have e : i % w = (i - s) % w := by
    have := Int.add_emod (i - s) s w
    rw [hm, show i - s + s = i by omega] at this
    simpa using this
  rw [e, Int.emod_eq_of_lt (by omega) (by omega)]; omega
/-- The caller ahead of tick i. -/
def PatAt (wait most frm i : Int) (c : Cl) : Prop :=
  c.wait = wait ∧ c.most = most ∧ c.call = 1 ∧ c.begun = frm ∧ (if i ≤ most then c.under = true ∧ ∃ s, c.sent = frm + s ∧ 0 ≤ s ∧ s < i ∧ i ≤ s + wait ∧ s.tmod wait = 0 else c.under = false) ∧ c.Wf
set_option maxRecDepth 20000 in
set_option maxHeartbeats 400000 in
theorem rpcPatience_walk (a0 : Int) (w0 : (Lit.int .i64 a0).wf = true) (a1 : Int) (w1 : (Lit.int .i64 a1).wf = true) (a2 : Int) (w2 : (Lit.int .i64 a2).wf = true) (W : World) :
    Calls Try.prog 5 #[.int .i64 a0, .int .i64 a1, .int .i64 a2] W fun e w' => e = .returned (.bool true) ∧ Below W.heap.size W w' := by
  clear w0 w1 w2
  have hcase : (1 ≤ a0 ∧ a0 ≤ 50 ∧ 1 ≤ a1 ∧ a1 ≤ 200 ∧ 0 ≤ a2 ∧ a2 ≤ 549755813888) ∨ a0 < 1 ∨ (1 ≤ a0 ∧ 50 < a0) ∨ (1 ≤ a0 ∧ a0 ≤ 50 ∧ a1 < 1) ∨ (1 ≤ a0 ∧ a0 ≤ 50 ∧ 1 ≤ a1 ∧ 200 < a1) ∨ (1 ≤ a0 ∧ a0 ≤ 50 ∧ 1 ≤ a1 ∧ a1 ≤ 200 ∧ a2 < 0) ∨ (1 ≤ a0 ∧ a0 ≤ 50 ∧ 1 ≤ a1 ∧ a1 ≤ 200 ∧ 0 ≤ a2 ∧ 549755813888 < a2) := by omega
  go_enter Try.func5, Try.ntmps5
  go_wp2_with fail
  refine (rpcSpeaks_any W).mono ?_
  rintro e w1 ⟨rfl, hb⟩
  have HB := Lib.hid hb
  clear hb
  have HK := Lib.hid hcase
  clear hcase
  go_upto_region 3 with (fail)
  go_cut [33] (fun v wc => w1 = wc ∧ ∃ q : Bool, v = .bool q ∧ (q = false → 1 ≤ a0 ∧ a0 ≤ 50 ∧ 1 ≤ a1 ∧ a1 ≤ 200 ∧ 0 ≤ a2 ∧ a2 ≤ 549755813888))
  case first =>
    rcases HK.out with ⟨h1, h2, h3, h4, h5, h6⟩ | h1 | ⟨h1, h2⟩ | ⟨h1, h2, h3⟩ | ⟨h1, h2, h3, h4⟩ | ⟨h1, h2, h3, h4, h5⟩ | ⟨h1, h2, h3, h4, h5, h6⟩
    all_goals
      go_wp2
      go_meet
      exact ⟨rfl, _, rfl, by first | (intro h; cases h; done) | (intro _; omega) | (simp; omega)⟩
  obtain ⟨rfl, q, rfl, hq⟩ := hcut
  go_upto_if 33 with (fail)
  go_cut [0, 1, 2] (fun v0 v1 v2 wc => w1 = wc ∧ ∃ wait most frm : Int, v0 = .int .i64 wait ∧ v1 = .int .i64 most ∧ v2 = .int .i64 frm ∧ 1 ≤ wait ∧ wait ≤ 50 ∧ 1 ≤ most ∧ most ≤ 200 ∧ 0 ≤ frm ∧ frm ≤ 549755813888)
  case first =>
    cases q
    · obtain ⟨h1, h2, h3, h4, h5, h6⟩ := hq rfl
      go_wp2
      go_meet
      exact ⟨rfl, a0, a1, a2, rfl, rfl, rfl, h1, h2, h3, h4, h5, h6⟩
    · clear hq
      go_wp2
      go_meet
      exact ⟨rfl, 3, 10, 7, rfl, rfl, rfl, by omega, by omega, by omega, by omega, by omega, by omega⟩
  obtain ⟨rfl, wait, most, frm, rfl, rfl, rfl, h1, h2, h3, h4, h5, h6⟩ := hcut
  clear HK
  have e1 : clamp wait 1 = wait := by unfold clamp; omega
  have e2 : clamp most 1 = most := by unfold clamp; omega
  have e3 : clamp frm 0 = frm := by unfold clamp; omega
  go_wp2_with fail
  refine (newCaller_any wait most w1).mono ?_
  rintro e w2 ⟨rfl, rfl⟩
  rw [e1, e2]
  have HC : Hid (CallerAt (w1.alloc (.cells #[.int .i64 wait, .int .i64 most, .int .i64 0, .bool false, .int .i64 0, .int .i64 0] 73)) w1.heap.size ⟨wait, most, 0, false, 0, 0⟩) := Lib.hid (Blk.new w1 (Cl.cells ⟨wait, most, 0, false, 0, 0⟩) 73)
  have HB2 := Lib.hid (HB.out.alloc HB.out.size (.cells #[.int .i64 wait, .int .i64 most, .int .i64 0, .bool false, .int .i64 0, .int .i64 0] 73))
  have hsz : W.heap.size ≤ w1.heap.size := HB.out.size
  have hsz2 : w1.heap.size + 1 = (w1.alloc (.cells #[.int .i64 wait, .int .i64 most, .int .i64 0, .bool false, .int .i64 0, .int .i64 0] 73)).heap.size := by simp
  generalize w1.alloc (.cells #[.int .i64 wait, .int .i64 most, .int .i64 0, .bool false, .int .i64 0, .int .i64 0] 73) = w2 at HC HB2 hsz2 ⊢
  go_wp2_with fail
  refine (start_any w1.heap.size _ frm w2 HC.out).mono ?_
  rintro e w3 ⟨rfl, hC3, hF3⟩
  have HP : Hid (∃ c, CallerAt w3 w1.heap.size c ∧ PatAt wait most frm 1 c) := Lib.hid ⟨_, hC3, rfl, rfl, (by show wrap64 (0 + 1) = 1; unfold wrap64; decide), e3, by rw [if_pos h3]; exact ⟨rfl, 0, by simp [Cl.start, e3], by omega, by omega, by omega, by simp⟩, ⟨h1, by show wait ≤ _; omega, h3, by show most ≤ _; omega, clamp_lo (by decide), clamp_hi _ _, clamp_lo (by decide), clamp_hi _ _⟩⟩
  have HF := Lib.hid hF3
  clear hC3 hF3 HC
  go_wp2_with fail
  go_loopg [8] (most + wait).toNat (fun g iv wr => ∃ (i : Int), iv = .int .i64 i ∧ 1 ≤ i ∧ i ≤ most + wait + 1 ∧ g = (most + wait + 1 - i).toNat ∧ Hid (∃ c, CallerAt wr w1.heap.size c ∧ PatAt wait most frm i c) ∧ Hid (Fr w2 wr (fun k => k = w1.heap.size)))
  case atStart => exact ⟨1, rfl, by omega, by omega, by omega, HP, HF⟩
  case round =>
    obtain ⟨i, rfl, hi1, hi2, hg, HP', HF'⟩ := hrel
    subst hg
    obtain ⟨c, hC, hP⟩ := HP'.out
    have HC := Lib.hid hC
    obtain ⟨p1, p2, p3, p4, p5, p6⟩ := hP
    have HWf := Lib.hid p6
    clear hC HP' HP HF
    by_cases hend : i ≤ most + wait
    · have ec : clamp (frm + i) 0 = frm + i := by unfold clamp; omega
      have HT := fun w hC => Lib.hid (tick_any w1.heap.size c HWf.out (frm + i) w hC)
      by_cases him : i ≤ most
      · rw [if_pos him] at p5
        obtain ⟨p5, s, p7, s1, s2, s3, s4⟩ := p5
        by_cases hlast : i = most
        · have et : c.tick (frm + i) = (2, { c with under := false }) := by
            unfold Cl.tick
            rw [if_pos p5, if_pos (by rw [p2, p4, ec]; omega)]
          have HPP : Hid (PatAt wait most frm (i + 1) { c with under := false }) := Lib.hid ⟨p1, p2, p3, p4, by rw [if_neg (by omega)], by have := Cl.tick_wf HWf.out (frm + i); rw [et] at this; exact this⟩
          have t0 : ¬ i < most := by omega
          have t1 : (i == i) = true := by simp
          subst hlast
          have HT2 := Lib.hid et
          clear p1 p2 p3 p4 p5 p7 s4 s1 s2 s3 ec et
          go_wp2_with fail
          refine (HT _ HC.out).out.mono ?_
          rw [HT2.out]
          rintro e w4 ⟨rfl, hC4, hF4⟩
          have HC4 := Lib.hid hC4
          have HF4 := Lib.hid (HF'.out.trans hF4 fun _ _ e => e)
          clear hC4 hF4
          go_wp2_with fail
          go_roundg ((i + wait + 1 - (i + 1)).toNat)
          case measure => omega
          case rel => exact ⟨i + 1, val_int (by omega), by omega, by omega, rfl, Lib.hid ⟨_, HC4.out, HPP.out⟩, HF4⟩
        · have t0 : i < most := by omega
          by_cases hag : i = s + wait
          · have et : c.tick (frm + i) = (1, { c with sent := frm + i }) := by
              unfold Cl.tick
              rw [if_pos p5, if_neg (by rw [p2, p4, ec]; omega), if_pos (by rw [p1, p7, ec]; omega), ec]
            have tm := tmod_hit h1 s1 s4 hag
            have HPP : Hid (PatAt wait most frm (i + 1) { c with sent := frm + i }) := Lib.hid ⟨p1, p2, p3, p4, by rw [if_pos (by omega)]; exact ⟨p5, i, rfl, by omega, by omega, by omega, tm⟩, by have := Cl.tick_wf HWf.out (frm + i); rw [et] at this; exact this⟩
            have t1 : (i.tmod wait == 0) = true := by simp [tm]
            have t3 : (i % wait == 0) = true := by rw [Int.tmod_eq_emod_of_nonneg (by omega)] at tm; simp [tm]
            clear p1 p2 p3 p4 p5 p7 s4 s1 s2 s3 ec tm hag hlast
            go_wp2_with fail
            refine (HT _ HC.out).out.mono ?_
            rw [et]
            rintro e w4 ⟨rfl, hC4, hF4⟩
            have HC4 := Lib.hid hC4
            have HF4 := Lib.hid (HF'.out.trans hF4 fun _ _ e => e)
            clear hC4 hF4 et
            go_wp2_with fail
            go_roundg ((most + wait + 1 - (i + 1)).toNat)
            case measure => omega
            case rel => exact ⟨i + 1, val_int (by omega), by omega, by omega, rfl, Lib.hid ⟨_, HC4.out, HPP.out⟩, HF4⟩
          · have et : c.tick (frm + i) = (0, c) := by
              unfold Cl.tick
              rw [if_pos p5, if_neg (by rw [p2, p4, ec]; omega), if_neg (by rw [p1, p7, ec]; omega)]
            have tm := tmod_miss h1 s1 s4 (by omega) (by omega)
            have HPP : Hid (PatAt wait most frm (i + 1) c) := Lib.hid ⟨p1, p2, p3, p4, by rw [if_pos (by omega)]; exact ⟨p5, s, p7, by omega, by omega, by omega, s4⟩, HWf.out⟩
            have t1 : (i.tmod wait == 0) = false := by simp [tm]
            have t3 : (i % wait == 0) = false := by rw [Int.tmod_eq_emod_of_nonneg (by omega)] at tm; simp [tm]
            have t2 : (i == most) = false := by simp [hlast]
            clear p1 p2 p3 p4 p5 p7 s4 s1 s2 s3 ec tm hag hlast
            go_wp2_with fail
            refine (HT _ HC.out).out.mono ?_
            rw [et]
            rintro e w4 ⟨rfl, hC4, hF4⟩
            have HC4 := Lib.hid hC4
            have HF4 := Lib.hid (HF'.out.trans hF4 fun _ _ e => e)
            clear hC4 hF4 et
            go_wp2_with fail
            go_roundg ((most + wait + 1 - (i + 1)).toNat)
            case measure => omega
            case rel => exact ⟨i + 1, val_int (by omega), by omega, by omega, rfl, Lib.hid ⟨_, HC4.out, HPP.out⟩, HF4⟩
      · rw [if_neg him] at p5
        have et : c.tick (frm + i) = (0, c) := by
          unfold Cl.tick
          rw [if_neg (by rw [p5]; decide)]
        have HPP : Hid (PatAt wait most frm (i + 1) c) := Lib.hid ⟨p1, p2, p3, p4, by rw [if_neg (by omega)]; exact p5, HWf.out⟩
        have t0 : ¬ i < most := by omega
        have t2 : (i == most) = false := by simp; omega
        clear p1 p2 p3 p4 p5 ec
        go_wp2_with fail
        refine (HT _ HC.out).out.mono ?_
        rw [et]
        rintro e w4 ⟨rfl, hC4, hF4⟩
        have HC4 := Lib.hid hC4
        have HF4 := Lib.hid (HF'.out.trans hF4 fun _ _ e => e)
        clear hC4 hF4 et
        go_wp2_with fail
        go_roundg ((most + wait + 1 - (i + 1)).toNat)
        case measure => omega
        case rel => exact ⟨i + 1, val_int (by omega), by omega, by omega, rfl, Lib.hid ⟨_, HC4.out, HPP.out⟩, HF4⟩
    · rw [if_neg (by omega)] at p5
      have eg : c.got 1 = (false, c) := by unfold Cl.got; rw [if_neg (by rw [p5]; simp)]
      have es : (c.start 0).call = 2 := by show wrap64 (c.call + 1) = 2; rw [p3]; unfold wrap64; decide
      have eh : ((c.start 0).got 2).1 = true := by unfold Cl.got; rw [if_pos ⟨rfl, es⟩]
      clear p1 p2 p3 p4 p5
      go_wp2_with fail
      refine (got_any w1.heap.size c 1 _ HC.out).mono ?_
      rw [eg]
      rintro e w4 ⟨rfl, hC4, hF4⟩
      have HC4 := Lib.hid hC4
      have HF4 := Lib.hid (HF'.out.trans hF4 fun _ _ e => e)
      clear hC4 hF4 eg
      go_wp2_with fail
      refine (start_any w1.heap.size c 0 _ HC4.out).mono ?_
      rw [es]
      rintro e w5 ⟨rfl, hC5, hF5⟩
      have HC5 := Lib.hid hC5
      have HF5 := Lib.hid (HF4.out.trans hF5 fun _ _ e => e)
      clear hC5 hF5 es
      go_wp2_with fail
      refine (got_any w1.heap.size _ 2 _ HC5.out).mono ?_
      rw [eh]
      rintro e w6 ⟨rfl, hC6, hF6⟩
      have HF6 := Lib.hid (HF5.out.trans hF6 fun _ _ e => e)
      clear hC6 hF6 eh
      go_wp2_with fail
      go_ret
      exact ⟨rfl, HB2.out.trans (HF6.out.below (fun k _ e => by rw [e]; omega) (by omega))⟩
end Go.Proofs.Ytlndnjpgpbeeeaa
