/- AttemptsKeeps: a task's winner stays till what it made is lost: the walk. -/
import Derived.Test.YtkcloaoaldklhaaBoardLaw
import Derived.Deep.CutBlock
namespace Go.Proofs.Ytkcloaoaldklhaa
open Go.RowKit
set_option linter.unusedVariables false
set_option linter.unusedSimpArgs false
theorem frNone_below {w w' : World} {B : Nat} (h : Fr w w' (fun _ => False)) (hs : B ≤ w.heap.size) : Below B w w' := h.below (fun _ _ e => e.elim) hs
structure Kp (W w : World) (b g : Nat) (vs : List Value) (S : At.Bd) (k gw : Nat) (wl : List Int) : Prop where
  bd : BoardAt w b g vs S
  ok : BOk S k
  m3 : S.maps = 3
  l5 : S.tasks.length = 5
  won : Blk w gw (ints wl) 26
  off : Off w b g vs gw
  lo : Lo W.heap.size b g vs
  lw : W.heap.size ≤ gw
  below : Below W.heap.size W w
structure Kq (W w : World) (b g : Nat) (vs : List Value) (S : At.Bd) (k gw : Nat) (wl : List Int) (ga : Nat) (cs : List Value) : Prop where
  bd : BoardAt w b g vs S
  ok : BOk S k
  m3 : S.maps = 3
  l5 : S.tasks.length = 5
  won : Blk w gw (ints wl) 26
  off : Off w b g vs gw
  act : Blk w ga cs 28
  oa : Off w b g vs ga
  ne : ga ≠ gw
  lo : Lo W.heap.size b g vs
  lw : W.heap.size ≤ gw
  below : Below W.heap.size W w
theorem Kq.step {W w w' : World} {b g : Nat} {vs : List Value} {S S' : At.Bd} {k k' gw : Nat} {wl : List Int} {ga : Nat} {cs : List Value} (h : Kq W w b g vs S k gw wl ga cs) (hto : BoardTo w b g vs S' w') (ok : BOk S' k') (sm : Same S S') : ∃ vs', Kq W w' b g vs' S' k' gw wl ga cs := by
  obtain ⟨vs', h1, h2⟩ := hto
  exact ⟨vs', h1, ok, sm.maps.trans h.m3, sm.len.trans h.l5, h.off.keep h2 h.won, h.off.step h2, h.oa.keep h2 h.act, h.oa.step h2, h.ne, h.lo.step h2 h.below.size, h.lw, h.lo.below h2 h.below⟩
theorem Kq.fr {W w w' : World} {b g : Nat} {vs : List Value} {S : At.Bd} {k gw : Nat} {wl : List Int} {ga : Nat} {cs : List Value} (h : Kq W w b g vs S k gw wl ga cs) (hf : Fr w w' (fun _ => False)) : Kq W w' b g vs S k gw wl ga cs :=
  ⟨h.bd.frNone hf, h.ok, h.m3, h.l5, h.won.fr hf (fun e => e), h.off.grow hf.size, h.act.fr hf (fun e => e), h.oa.grow hf.size, h.ne, h.lo, h.lw, h.below.trans (frNone_below hf h.below.size)⟩
theorem Kq.set {W w : World} {b g : Nat} {vs : List Value} {S : At.Bd} {k gw : Nat} {wl : List Int} {ga : Nat} {cs : List Value} (h : Kq W w b g vs S k gw wl ga cs) (i : Nat) (x : Int) : Kq W (w.setCell ⟨gw, i, none⟩ (.int .i64 x)) b g vs S k gw (wl.set i x) ga cs := by
  have hf : Fr w (w.setCell ⟨gw, i, none⟩ (.int .i64 x)) (fun q => q = gw) := (Fr.refl w _).setCell _ _ fun _ => rfl
  refine ⟨h.bd.fr hf fun q hq e => h.off.not (e ▸ hq), h.ok, h.m3, h.l5, ?_, h.off.grow hf.size, h.act.fr hf h.ne, h.oa.grow hf.size, h.ne, h.lo, h.lw, h.below.trans (hf.below (fun q _ e => by rw [e]; exact h.lw) h.below.size)⟩
  have := h.won.set i (.int .i64 x)
  unfold ints at this ⊢
  rw [List.map_set]
  exact this
theorem Kp.act {W w : World} {b g : Nat} {vs : List Value} {S : At.Bd} {k gw : Nat} {wl : List Int} (h : Kp W w b g vs S k gw wl) (cs : List Value) : Kq W (w.alloc (.cells cs.toArray 28)) b g vs S k gw wl w.heap.size cs := by
  have hf : Fr w (w.alloc (.cells cs.toArray 28)) (fun _ => False) := (Fr.refl w _).alloc _
  exact ⟨h.bd.frNone hf, h.ok, h.m3, h.l5, h.won.fr hf (fun e => e), h.off.grow hf.size, Blk.new w cs 28, Off.new h.bd (by simp), by have := h.won.lt; omega, h.lo, h.lw, h.below.trans (frNone_below hf h.below.size)⟩
theorem Kq.forget {W w : World} {b g : Nat} {vs : List Value} {S : At.Bd} {k gw : Nat} {wl : List Int} {ga : Nat} {cs : List Value} (h : Kq W w b g vs S k gw wl ga cs) : Kp W w b g vs S k gw wl := ⟨h.bd, h.ok, h.m3, h.l5, h.won, h.off, h.lo, h.lw, h.below⟩
theorem BOk.mono {S : At.Bd} {N M : Nat} (h : BOk S N) (hm : N ≤ M) : BOk S M := ⟨h.len, h.maps, h.p1, h.p2, fun k hk => (h.tk k hk).mono hm, h.opn, h.dead⟩
theorem Kq.mono {W w : World} {b g : Nat} {vs : List Value} {S : At.Bd} {k k' gw : Nat} {wl : List Int} {ga : Nat} {cs : List Value} (h : Kq W w b g vs S k gw wl ga cs) (hk : k ≤ k') : Kq W w b g vs S k' gw wl ga cs := ⟨h.bd, h.ok.mono hk, h.m3, h.l5, h.won, h.off, h.act, h.oa, h.ne, h.lo, h.lw, h.below⟩
theorem ready_len (S : At.Bd) (node now : Int) : (At.ready S node now).length ≤ S.tasks.length := by
  unfold At.ready
  split
  · exact Nat.zero_le _
  · split
    · exact At.idle_le _ _
    · exact At.slow_le _ _ _ _
/-- what the law has written down -/
structure Wn (S : At.Bd) (wl : List Int) (i : Nat) : Prop where
  len : wl.length = 5
  is : ∀ t x, t < i → wl[t]? = some x → (wins S)[t]? = some x
  may : ∀ (t : Nat) (x : Int), wl[t]? = some x → x = 0 ∨ (wins S)[t]? = some x
theorem Wn.full {S : At.Bd} {wl : List Int} (h : Wn S wl 5) (hl : S.tasks.length = 5) : wl = wins S := by
  apply List.ext_getElem?
  intro t
  by_cases ht : t < 5
  · obtain ⟨x, hx⟩ : ∃ x, wl[t]? = some x := ⟨wl[t]'(by rw [h.len]; exact ht), List.getElem?_eq_getElem _⟩
    rw [hx, h.is t x ht hx]
  · rw [List.getElem?_eq_none (by rw [h.len]; omega), List.getElem?_eq_none (by unfold wins; rw [List.length_map, hl]; omega)]
theorem Wn.of {S : At.Bd} (hl : S.tasks.length = 5) : Wn S (wins S) 5 := ⟨by unfold wins; rw [List.length_map]; exact hl, fun t x _ h => h, fun t x h => .inr h⟩
theorem Wn.zero {S S' : At.Bd} {wl : List Int} (h : Wn S wl 5) (hk : ∀ (q : Nat) (x : Int), (wins S)[q]? = some x → x ≠ 0 → (wins S')[q]? = some x) : Wn S' wl 0 :=
  ⟨h.len, fun t x ht => absurd ht (Nat.not_lt_zero _), fun t x hx => by
    by_cases h0 : x = 0
    · exact .inl h0
    · rcases h.may t x hx with e | e
      · exact .inl e
      · exact .inr (hk t x e h0)⟩
theorem Wn.next {S : At.Bd} {wl : List Int} {i : Nat} {n : Int} (h : Wn S wl i) (hn : (wins S)[i]? = some n) (hi : i < 5) : Wn S (wl.set i n) (i + 1) := by
  refine ⟨by rw [List.length_set]; exact h.len, fun t x ht hx => ?_, fun t x hx => ?_⟩
  · rw [List.getElem?_set] at hx
    split at hx
    · rename_i e
      subst e
      rw [if_pos (by rw [h.len]; exact hi)] at hx
      rw [← Option.some.inj hx]; exact hn
    · rename_i e
      exact h.is t x (by omega) hx
  · rw [List.getElem?_set] at hx
    split at hx
    · rename_i e
      subst e
      rw [if_pos (by rw [h.len]; exact hi)] at hx
      rw [← Option.some.inj hx]; exact .inr hn
    · exact h.may t x hx
/-- are the first i maps won? -/
def mp (S : At.Bd) (i : Nat) : Bool := (((S.tasks.take 3).take i).all fun k => !isOpen k)
theorem mp_succ {S : At.Bd} {i : Nat} {k : At.Task} (hk : S.tasks[i]? = some k) : mp S (i + 1) = (mp S i && (decide (2 < i) || decide (k.winner ≠ 0))) := by
  unfold mp
  by_cases h : 2 < i
  · have h3 : (S.tasks.take 3).length ≤ i := by rw [List.length_take]; omega
    rw [List.take_of_length_le (Nat.le_succ_of_le h3), List.take_of_length_le h3, decide_eq_true h, Bool.true_or, Bool.and_true]
  · have : (S.tasks.take 3)[i]? = some k := by rw [List.getElem?_take, if_pos (by omega)]; exact hk
    rw [List.take_add_one, this, List.all_append, decide_eq_false h, Bool.false_or]
    congr 1
    simp [isOpen]
theorem mp_all {S : At.Bd} {k : Nat} (h : BOk S k) (hm : S.maps = 3) (h0 : S.opn = 0) : mp S 5 = true := by
  unfold mp
  rw [List.all_eq_true]
  intro x hx
  have hx := List.mem_of_mem_take hx
  have h1 := h.opn
  rw [h0, hm] at h1
  have h2 : (S.tasks.take 3).countP isOpen = 0 := by omega
  rw [List.countP_eq_zero] at h2
  have := h2 x hx
  simpa using this
set_option maxRecDepth 20000 in
set_option maxHeartbeats 8000000 in
theorem attemptsKeeps_walk (W : World) (sa : Option Addr) (n sc : Nat) (xs : List AAct) (hR : RAActs W [.slice sa n sc] xs) :
    Calls Try.prog 3 #[.slice sa n sc] W fun e w' => e = .returned (.bool true) ∧ Below W.heap.size W w' := by
  obtain ⟨hn, hnc, hcb, hcm, hel⟩ := rsl_get hR
  have HEL := Lib.hid hel
  have HBN : Hid (n ≤ 2932031007403) := Lib.hid (by omega)
  have HNC : Hid (xs.length = n) := Lib.hid hn
  clear hR hn hnc hcb hcm hel
  go_enter Try.func3, Try.ntmps3
  go_wp2_with fail
  refine (atSpeaks_any W).mono ?_
  rintro _ w1 ⟨rfl, hb⟩
  have HB := Lib.hid hb
  clear hb
  go_wp2_with fail
  refine (new_c 3 2 100 4 w1).mono ?_
  intro e w2 h2
  obtain ⟨b, g, vs, rfl, hbd, hnv, hb1, hg1, hbe⟩ := h2
  have K0 : Hid (BoardAt w2 b g vs (At.new 3 2 100 4) ∧ Lo W.heap.size b g vs ∧ Below W.heap.size W w2) := Lib.hid ⟨hbd, ⟨Nat.le_trans HB.out.size hb1, Nat.le_trans HB.out.size hg1, fun v hv q hq => by rw [hnv v hv] at hq; cases hq⟩, HB.out.trans (hbe.mono HB.out.size)⟩
  clear hbd hnv hb1 hg1 hbe HB
  go_wp2_with fail
  have P0 : Hid (Kp W (w2.alloc (.cells #[.int .i64 0, .int .i64 0, .int .i64 0, .int .i64 0, .int .i64 0] 26)) b g vs (At.new 3 2 100 4) 0 w2.heap.size (wins (At.new 3 2 100 4))) := Lib.hid (by
    obtain ⟨k1, k2, k3⟩ := K0.out
    have hf : Fr w2 (w2.alloc (.cells #[.int .i64 0, .int .i64 0, .int .i64 0, .int .i64 0, .int .i64 0] 26)) (fun _ => False) := (Fr.refl w2 _).alloc _
    exact ⟨k1.frNone hf, new_ok _ _ _ _ _, rfl, rfl, Blk.new w2 [.int .i64 0, .int .i64 0, .int .i64 0, .int .i64 0, .int .i64 0] 26, Off.new k1 (by simp), k2, k3.size, k3.trans (frNone_below hf k3.size)⟩)
  clear K0
  generalize w2.alloc (.cells #[.int .i64 0, .int .i64 0, .int .i64 0, .int .i64 0, .int .i64 0] 26) = w3 at P0 ⊢
  generalize w2.heap.size = gw at P0 ⊢
  have hl0 : (At.new 3 2 100 4).tasks.length = 5 := rfl
  have HW0 := Lib.hid (Wn.of hl0)
  clear hl0
  generalize At.new 3 2 100 4 = S0 at P0 HW0
  go_loopg [5] n (fun gg iv wr => ∃ (k : Nat) (vs : List Value) (S : At.Bd) (wl : List Int), iv = .int .i64 k ∧ k ≤ n ∧ gg = n - k ∧ Hid (Kp W wr b g vs S k gw wl) ∧ Hid (Wn S wl 5))
  case atStart => exact ⟨0, vs, S0, _, rfl, Nat.zero_le _, rfl, P0, HW0⟩
  case round =>
    clear P0 HW0 S0
    clear vs
    obtain ⟨k, vs, S, wl, rfl, hk, hg, P, HW⟩ := hrel
    subst hg
    have HK : Hid (k ≤ n) := Lib.hid hk
    clear hk
    by_cases h : k < n
    · obtain ⟨x, hx⟩ : ∃ x, xs[k]? = some x := ⟨xs[k]'(by have := HNC.out; omega), List.getElem?_eq_getElem _⟩
      have t1 : decide ((k : Int) < (n : Int)) = true := decide_eq_true (by omega)
      have t1n : decide (k < n) = true := decide_eq_true h
      obtain ⟨ba, off, rfl, hbW, hxw, hcell⟩ := HEL.out k x hx
      have hcw : ∀ (i : Nat) (v : Value), x.cells[i]? = some v → wr.cell? ⟨ba, off + (k * 6 + i), none⟩ = some v := fun i v hv => by
        rw [← hcell i v hv]
        exact World.cell?_of_block (P.out.below.block ba hbW)
      have d0 : wr.cell? ⟨ba, off + k * 6, none⟩ = some (.int .i64 x.what) := hcw 0 _ rfl
      have d1 : wr.cell? ⟨ba, off + k * 6 + 1, none⟩ = some (.int .i64 x.task) := hcw 1 _ rfl
      have d2 : wr.cell? ⟨ba, off + k * 6 + 2, none⟩ = some (.int .i64 x.node) := hcw 2 _ rfl
      have d3 : wr.cell? ⟨ba, off + k * 6 + 3, none⟩ = some (.int .i64 x.now) := hcw 3 _ rfl
      have d4 : wr.cell? ⟨ba, off + k * 6 + 4, none⟩ = some (.int .i64 x.att) := hcw 4 _ rfl
      have d5 : wr.cell? ⟨ba, off + k * 6 + 5, none⟩ = some (.int .i64 x.how) := hcw 5 _ rfl
      obtain ⟨q, hq, hqc⟩ := tmod6 x.what hxw.w1 hxw.w2
      have HLK := Lib.hid h
      clear hcw hcell hx hxw h
      obtain ⟨what, tt, tn, tw, ta, th⟩ := x
      dsimp only at *
      go_upto_region 9 with (fail)
      have MX := Lib.hid (P.out.act [.int .i64 what, .int .i64 tt, .int .i64 tn, .int .i64 tw, .int .i64 ta, .int .i64 th])
      change Code.wp _ _ _ _ (wr.alloc (.cells ([.int .i64 what, .int .i64 tt, .int .i64 tn, .int .i64 tw, .int .i64 ta, .int .i64 th] : List Value).toArray 28))
      generalize wr.alloc (.cells ([.int .i64 what, .int .i64 tt, .int .i64 tn, .int .i64 tw, .int .i64 ta, .int .i64 th] : List Value).toArray 28) = wx at MX ⊢
      have i0 : wx.cell? ⟨wr.heap.size, 0, none⟩ = some (.int .i64 what) := MX.out.act.cell 0
      clear d0 d1 d2 d3 d4 d5 P HEL
      generalize wr.heap.size = ga at MX i0 ⊢
      go_upto_block 2 with (fail)
      go_cut [] (fun wc => ∃ (vs' : List Value) (S' : At.Bd) (wl' : List Int), Hid (Kq W wc b g vs' S' (k + 1) gw wl' ga [.int .i64 what, .int .i64 tt, .int .i64 tn, .int .i64 tw, .int .i64 ta, .int .i64 th]) ∧ Hid (Wn S' wl' 0))
      case first =>
        have HKN : Hid (k ≤ 5000000000000) := Lib.hid (by have := HLK.out; have := HBN.out; omega)
        have i1 : wx.cell? ⟨ga, 1, none⟩ = some (.int .i64 tt) := MX.out.act.cell 1
        have i2 : wx.cell? ⟨ga, 2, none⟩ = some (.int .i64 tn) := MX.out.act.cell 2
        have i3 : wx.cell? ⟨ga, 3, none⟩ = some (.int .i64 tw) := MX.out.act.cell 3
        have i4 : wx.cell? ⟨ga, 4, none⟩ = some (.int .i64 ta) := MX.out.act.cell 4
        have i5 : wx.cell? ⟨ga, 5, none⟩ = some (.int .i64 th) := MX.out.act.cell 5
        have hstart := start_c b g vs S tt tn tw wx MX.out.bd k (MX.out.ok.use (by have := HKN.out; omega)) HKN.out
        rcases hqc with rfl | rfl | rfl | rfl | rfl | rfl
        · clear hq
          have HS := Lib.hid hstart
          clear hstart
          go_wp2_with fail
          refine HS.out.mono ?_
          rintro e w5 ⟨rfl, h5⟩
          obtain ⟨vs5, K5⟩ := MX.out.step h5 (start_bok MX.out.ok tt tn tw) (start_same S tt tn tw)
          have M5 := Lib.hid K5
          clear h5 K5 HS
          go_wp2_with fail
          go_meet
          exact ⟨vs5, _, wl, M5, Lib.hid (HW.out.zero fun q x hx _ => by rw [start_wins]; exact hx)⟩
        · clear hq
          have HS := Lib.hid hstart
          clear hstart
          go_wp2_with fail
          refine HS.out.mono ?_
          rintro e w5 ⟨rfl, h5⟩
          obtain ⟨vs5, K5⟩ := MX.out.step h5 (start_bok MX.out.ok tt tn tw) (start_same S tt tn tw)
          have M5 := Lib.hid K5
          clear h5 K5 HS
          go_wp2_with fail
          go_meet
          exact ⟨vs5, _, wl, M5, Lib.hid (HW.out.zero fun q x hx _ => by rw [start_wins]; exact hx)⟩
        · clear hq
          have HS := Lib.hid (report_c b g vs S tt ta th wx MX.out.bd k (MX.out.ok.use (by have := HKN.out; omega)) (by have := HKN.out; omega))
          clear hstart
          go_wp2_with fail
          refine HS.out.mono ?_
          rintro e w5 ⟨rfl, h5⟩
          obtain ⟨vs5, K5⟩ := MX.out.step h5 ((report_bok MX.out.ok tt ta th).mono (Nat.le_succ k)) (report_same S tt ta th)
          have M5 := Lib.hid K5
          clear h5 K5 HS
          go_wp2_with fail
          go_meet
          exact ⟨vs5, _, wl, M5, Lib.hid (HW.out.zero fun q x hx h0 => report_wins S tt ta th hx h0)⟩
        · clear hq
          have HS := Lib.hid (gone_c b g vs S MX.out.ok.len (fun k hk => by have := (MX.out.ok.tk k hk).len; have := HKN.out; omega) tn wx MX.out.bd)
          clear hstart
          go_wp2_with fail
          refine HS.out.mono ?_
          rintro e w5 ⟨rfl, h5, h6⟩
          obtain ⟨vs5, K5⟩ := MX.out.step ⟨vs, h5, h6⟩ ((gone_bok MX.out.ok tn).mono (Nat.le_succ k)) (gone_same S tn)
          have M5 := Lib.hid K5
          clear h5 h6 K5 HS
          go_wp2_with fail
          go_meet
          exact ⟨vs5, _, wl, M5, Lib.hid (HW.out.zero fun q x hx h0 => by rw [gone_wins]; exact hx)⟩
        · clear hq
          clear hstart
          have hlc := lost_c b g vs S MX.out.ok.win tt ta wx MX.out.bd k (MX.out.ok.use (by have := HKN.out; omega)) (by have := HKN.out; omega)
          rcases lost_wins S tt ta with hr | ⟨i, rfl, him, h1, h2, h3⟩
          · rw [hr] at hlc
            have HS := Lib.hid hlc
            clear hlc hr
            go_wp2_with fail
            refine HS.out.mono ?_
            rintro e w5 ⟨rfl, h5⟩
            obtain ⟨vs5, K5⟩ := MX.out.step h5 (MX.out.ok.mono (Nat.le_succ k)) (Same.rfl' S)
            have M5 := Lib.hid K5
            clear h5 K5 HS
            go_wp2_with fail
            go_meet
            exact ⟨vs5, _, wl, M5, Lib.hid (HW.out.zero fun q x hx h0 => hx)⟩
          · rw [h1] at hlc
            have hok2 := (lost_bok MX.out.ok (i : Int) ta).mono (Nat.le_succ k)
            have hsm := lost_same S (i : Int) ta
            rw [MX.out.m3] at him
            generalize (At.lost S (i : Int) ta).2 = S2 at hlc hok2 hsm h3
            have HS := Lib.hid hlc
            have HO2 := Lib.hid hok2
            have HSM := Lib.hid hsm
            have HWL : Hid (wl[i]? = some ta) := Lib.hid (by rw [HW.out.full MX.out.l5]; exact h2)
            have HW2 : Hid (Wn S2 (wl.set i 0) 0) := Lib.hid (by
              have e : wl.set i 0 = wins S2 := by rw [h3, HW.out.full MX.out.l5]
              rw [e]
              exact (Wn.of (hsm.len.trans MX.out.l5)).zero fun q x hx _ => hx)
            have n1 : decide ((i : Int) < 0) = false := decide_eq_false (by omega)
            have n2 : decide ((2 : Int) < (i : Int)) = false := decide_eq_false (by omega)
            have n2n : decide (2 < i) = false := decide_eq_false (by omega)
            have ia : ((i : Int)).toNat = i := by omega
            have ip : (0 : Int) ≤ (i : Int) := by omega
            have iz : (i : Int) < 5 := by omega
            have hbi : (ta != ta) = false := by simp
            clear hlc hok2 hsm h1 h2 h3 him
            go_wp2_with fail
            refine HS.out.mono ?_
            rintro e w5 ⟨rfl, h5⟩
            obtain ⟨vs5, K5⟩ := MX.out.step h5 HO2.out HSM.out
            have M5 := Lib.hid K5
            clear h5 K5 HS i0 i1 i2 i3 i4 i5
            go_upto_region 19 with (fail)
            have hwc : w5.cell? ⟨gw, i, none⟩ = some (.int .i64 ta) := by
              rw [M5.out.won.cell]
              unfold ints
              rw [List.getElem?_map, HWL.out]
              rfl
            have j1 : ∀ d, (w5.drewN d).cell? ⟨ga, 1, none⟩ = some (.int .i64 (i : Int)) := fun d => M5.out.act.cell 1
            have j4 : ∀ d, (w5.drewN d).cell? ⟨ga, 4, none⟩ = some (.int .i64 ta) := fun d => M5.out.act.cell 4
            have jw : ∀ d, (w5.drewN d).cell? ⟨gw, i, none⟩ = some (.int .i64 ta) := fun d => hwc
            have M6 := Lib.hid (M5.out.set i 0)
            go_quiet (fail)
            have j1' : (w5.drewN nq).cell? ⟨ga, 1, none⟩ = some (.int .i64 (i : Int)) := j1 nq
            have jw' : (w5.drewN nq).cell? ⟨gw, i, none⟩ = some (.int .i64 ta) := jw nq
            have jf : (w5.drewN nq).frozen? ⟨gw, i, none⟩ = false := M5.out.won.frozen i
            have M7 := Lib.hid ((M5.out.fr ((Fr.refl w5 (fun _ => False)).drewN nq)).set i 0)
            clear j1 j4 jw hwc M5 M6
            generalize w5.drewN nq = w7 at j1' jw' jf M7 ⊢
            go_wp2_with fail
            go_meet
            exact ⟨vs5, S2, _, M7, HW2⟩
        · clear hq
          clear hstart
          go_wp2_with fail
          go_meet
          exact ⟨vs, S, wl, Lib.hid (MX.out.mono (Nat.le_succ k)), Lib.hid (HW.out.zero fun q x hx _ => hx)⟩
      obtain ⟨vs', S', wl', M, HN⟩ := hcut
      have HKN : Hid (k + 1 ≤ 5000000000001) := Lib.hid (by have := HLK.out; have := HBN.out; omega)
      clear MX i0 HW hq hqc
      clear wl S vs
      go_wp2_with fail
      go_loopg [7, 8] 5 (fun gg mv tv wq => ∃ (i : Nat) (wl2 : List Int), mv = .bool (mp S' i) ∧ tv = .int .i64 (i : Int) ∧ i + gg = 5 ∧ Hid (Kq W wq b g vs' S' (k + 1) gw wl2 ga [.int .i64 what, .int .i64 tt, .int .i64 tn, .int .i64 tw, .int .i64 ta, .int .i64 th]) ∧ Hid (Wn S' wl2 i))
      case atStart => exact ⟨0, wl', rfl, rfl, rfl, M, HN⟩
      case round =>
        obtain ⟨i, wl2, rfl, rfl, hgg, M2, W2⟩ := hrel
        clear M HN
        have HG := Lib.hid hgg
        clear hgg
        by_cases hi : i < 5
        · have s1 : decide ((i : Int) < 5) = true := decide_eq_true (by omega)
          have s1n : decide (i < 5) = true := decide_eq_true hi
          obtain ⟨qk, hqk⟩ : ∃ qk, S'.tasks[i]? = some qk := ⟨S'.tasks[i]'(by rw [M2.out.l5]; exact hi), List.getElem?_eq_getElem _⟩
          obtain ⟨nd, hwi⟩ := winner_at M2.out.ok hqk
          have hwc := winner_c b g vs' S' (M2.out.ok.use HKN.out).wf M2.out.ok.win (i : Int) wr M2.out.bd
          rw [hwi] at hwc
          obtain ⟨x, hx⟩ : ∃ x, wl2[i]? = some x := ⟨wl2[i]'(by rw [W2.out.len]; exact hi), List.getElem?_eq_getElem _⟩
          have hwn : (wins S')[i]? = some qk.winner := by unfold wins; rw [List.getElem?_map, hqk]; rfl
          have hxw : x = 0 ∨ qk.winner = x := (W2.out.may i x hx).imp id fun e => by rw [hwn] at e; exact Option.some.inj e
          have hmp := mp_succ hqk
          have h0 : 0 ≤ qk.winner := (M2.out.ok.tk qk (List.mem_of_getElem? hqk)).win.1
          have HWN := Lib.hid (W2.out.next hwn hi)
          have M3 := Lib.hid (M2.out.set i qk.winner)
          have zc : wr.cell? ⟨gw, i, none⟩ = some (.int .i64 x) := by
            rw [M2.out.won.cell]
            unfold ints
            rw [List.getElem?_map, hx]
            rfl
          have zf : wr.frozen? ⟨gw, i, none⟩ = false := M2.out.won.frozen i
          dsimp only at hwc
          generalize qk.winner = nw at hwc hxw hmp h0 HWN M3 hwn
          have hc : (nw = 0 ∧ x = 0) ∨ (nw ≠ 0 ∧ x = 0) ∨ (nw ≠ 0 ∧ x = nw) := by omega
          obtain ⟨b1, hb1⟩ : ∃ b1, (x != 0) = b1 := ⟨_, rfl⟩
          obtain ⟨b2, hb2⟩ : ∃ b2, (nw != x) = b2 := ⟨_, rfl⟩
          obtain ⟨b3, hb3⟩ : ∃ b3, decide (nw < 1) = b3 := ⟨_, rfl⟩
          obtain ⟨b4, hb4⟩ : ∃ b4, decide (nw ≠ 0) = b4 := ⟨_, rfl⟩
          have hbb : (b1 = false ∧ b2 = false ∧ b3 = true ∧ b4 = false) ∨ (b1 = false ∧ b2 = true ∧ b3 = false ∧ b4 = true) ∨ (b1 = true ∧ b2 = false ∧ b3 = false ∧ b4 = true) := by
            rcases hc with ⟨e1, e2⟩ | ⟨e1, e2⟩ | ⟨e1, e2⟩
            · exact .inl ⟨by rw [← hb1, e2]; rfl, by rw [← hb2, e1, e2]; rfl, by rw [← hb3, e1]; rfl, by rw [← hb4, e1]; rfl⟩
            · exact .inr (.inl ⟨by rw [← hb1, e2]; rfl, by rw [← hb2, e2]; simpa using e1, by rw [← hb3]; exact decide_eq_false (by omega), by rw [← hb4]; exact decide_eq_true e1⟩)
            · exact .inr (.inr ⟨by rw [← hb1, e2]; simpa using e1, by rw [← hb2, e2]; simp, by rw [← hb3]; exact decide_eq_false (by omega), by rw [← hb4]; exact decide_eq_true e1⟩)
          obtain ⟨b5, hb5⟩ : ∃ b5, decide (2 < i) = b5 := ⟨_, rfl⟩
          have hb5i : decide ((2 : Int) < (i : Int)) = b5 := by rw [← hb5]; exact decide_eq_decide.2 (by omega)
          rw [hb4, hb5] at hmp
          rw [hb4] at hwc
          have HMP := Lib.hid hmp
          have HWC := Lib.hid hwc
          have HI := Lib.hid hi
          have ia : ((i : Int)).toNat = i := by omega
          have ip : (0 : Int) ≤ (i : Int) := by omega
          have iz : (i : Int) < 5 := by omega
          clear hb4 hc h0 hmp hwc hxw hwn hx hwi hqk hi M2 W2
          generalize mp S' i = mb at HMP ⊢
          rcases hbb with ⟨rfl, rfl, rfl, rfl⟩ | ⟨rfl, rfl, rfl, rfl⟩ | ⟨rfl, rfl, rfl, rfl⟩ <;> cases mb <;> cases b5
          all_goals
            go_wp2_with fail
            refine HWC.out.mono ?_
            rintro _ _ ⟨rfl, rfl⟩
            go_wp2_with fail
            go_roundg (5 - (i + 1))
            case measure => have := HI.out; have := HG.out; omega
            case rel => exact ⟨i + 1, wl2.set i nw, by rw [HMP.out]; rfl, by first | rfl | go_num, by have := HI.out; omega, M3, HWN⟩
        · have s1 : decide ((i : Int) < 5) = false := decide_eq_false (by omega)
          have s1n : decide (i < 5) = false := decide_eq_false hi
          have hi5 : i = 5 := by have := HG.out; omega
          have HW5 : Hid (Wn S' wl2 5) := Lib.hid (hi5 ▸ W2.out)
          have HMB : Hid (S'.opn = 0 → mp S' i = true) := Lib.hid fun h0 => by rw [hi5]; exact mp_all M2.out.ok M2.out.m3 h0
          generalize mp S' i = mb at HMB ⊢
          clear hi5 hi W2
          go_upto_region 31 with (fail)
          have j2 : wr.cell? ⟨ga, 2, none⟩ = some (.int .i64 tn) := M2.out.act.cell 2
          have j3 : wr.cell? ⟨ga, 3, none⟩ = some (.int .i64 tw) := M2.out.act.cell 3
          go_wp2_with fail
          refine (ready_any b g vs' S' (k + 1) M2.out.ok HKN.out tn tw wr M2.out.bd).mono ?_
          intro e w6 h6
          obtain ⟨v6, rfl, ho, hbe⟩ := h6
          have hf6 : Fr wr w6 (fun _ => False) := Fr.of_below hbe fun q h1 h2 => absurd h2 (Nat.not_lt.2 h1)
          have M6 := Lib.hid (M2.out.fr hf6)
          have HRM := Lib.hid (fun (x : Int) (h : x ∈ At.ready S' tn tw) => ready_mem h)
          have HRL : Hid ((At.ready S' tn tw).length ≤ 5) := Lib.hid (by have := ready_len S' tn tw; rw [M2.out.l5] at this; exact this)
          generalize At.ready S' tn tw = lst at ho HRM HRL
          obtain ⟨A6, c6, rfl⟩ := own_slice ho
          have HO := Lib.hid ho
          clear ho hbe hf6 j2 j3 M2
          generalize wr.heap.size = B6 at HO
          go_wp2_with fail
          go_loopg [13] lst.length (fun gg kv wq => ∃ j : Nat, kv = .int .i64 (j : Int) ∧ j + gg = lst.length ∧ wq = w6)
          case atStart => exact ⟨0, rfl, by omega, rfl⟩
          case round =>
            obtain ⟨j, rfl, hgj, rfl⟩ := hrel
            have HGJ := Lib.hid hgj
            clear hgj
            by_cases hj : j < lst.length
            · have r1 : decide ((j : Int) < (lst.length : Int)) = true := decide_eq_true (by omega)
              have r1n : decide (j < lst.length) = true := decide_eq_true hj
              obtain ⟨y, hy⟩ : ∃ y, lst[j]? = some y := ⟨lst[j], List.getElem?_eq_getElem _⟩
              obtain ⟨c, tk, rfl, htk, hmay⟩ := HRM.out y (List.mem_of_getElem? hy)
              rw [may_iff] at hmay
              obtain ⟨hw0, hmo⟩ := hmay
              have hc5 : c < 5 := by have := (List.getElem?_eq_some_iff.1 htk).1; rw [M6.out.l5] at this; exact this
              obtain ⟨g6, cp6, hv6, _, _, hC⟩ := own_some HO.out (by omega)
              cases hv6
              have y0 : wr.cell? ⟨g6, j, none⟩ = some (.int .i64 (c : Int)) := (hC.get (j := j) (by unfold ints; rw [List.getElem?_map, hy]; rfl)).1
              have y1 : wr.cell? ⟨gw, c, none⟩ = some (.int .i64 0) := by
                rw [M6.out.won.cell, HW5.out.full M6.out.l5]
                unfold ints wins
                rw [List.getElem?_map, List.getElem?_map, htk]
                show some (Value.int .i64 tk.winner) = _
                rw [hw0]
              have hbm : decide (2 < c) = true → mb = true := fun e => HMB.out (by
                have := of_decide_eq_true e
                have := M6.out.m3
                rcases hmo with h | h
                · omega
                · exact h)
              obtain ⟨b5, hb5⟩ : ∃ b5, decide (2 < c) = b5 := ⟨_, rfl⟩
              have hb5i : decide ((2 : Int) < (c : Int)) = b5 := by rw [← hb5]; exact decide_eq_decide.2 (by omega)
              rw [hb5] at hbm
              have ja : ((j : Int)).toNat = j := by omega
              have jp : (0 : Int) ≤ (j : Int) := by omega
              have jz : (j : Int) < (lst.length : Int) := by omega
              have ca : ((c : Int)).toNat = c := by omega
              have cp : (0 : Int) ≤ (c : Int) := by omega
              have cz : (c : Int) < 5 := by omega
              have kw : j + 1 < 100 := by have := HRL.out; omega
              have HJ := Lib.hid hj
              clear hC hy htk hw0 hmo hj HMB
              cases b5 with
              | false =>
                clear hbm
                go_wp2_with fail
                clear kw
                go_roundg (lst.length - (j + 1))
                case measure => have := HJ.out; have := HGJ.out; omega
                case rel => exact ⟨j + 1, by first | rfl | go_num, by have := HJ.out; omega, rfl⟩
              | true =>
                obtain rfl := hbm rfl
                clear hbm
                go_wp2_with fail
                clear kw
                go_roundg (lst.length - (j + 1))
                case measure => have := HJ.out; have := HGJ.out; omega
                case rel => exact ⟨j + 1, by first | rfl | go_num, by have := HJ.out; omega, rfl⟩
            · have r1 : decide ((j : Int) < (lst.length : Int)) = false := decide_eq_false (by omega)
              have r1n : decide (j < lst.length) = false := decide_eq_false hj
              have kw : k + 1 < 5000000000002 := by have := HKN.out; omega
              have MP := Lib.hid M6.out.forget
              clear hj M6
              go_wp2_with fail
              clear kw
              go_roundg (n - (k + 1))
              case measure => have := HLK.out; omega
              case rel => exact ⟨k + 1, vs', S', wl2, by first | rfl | go_num, by have := HLK.out; omega, rfl, MP, HW5⟩
    · have t1 : decide ((k : Int) < (n : Int)) = false := decide_eq_false (by have := HK.out; omega)
      have t1n : decide (k < n) = false := decide_eq_false h
      have HE := Lib.hid P.out.below
      clear h HEL P
      go_wp2_with fail
      go_ret
      exact ⟨rfl, HE.out⟩
end Go.Proofs.Ytkcloaoaldklhaa
