/- AttemptsEnds: whoever does what is ready comes to the end: the walk. (Printed by XAttemptsEnds.py.) -/
import Derived.Test.YtkcloaoaldklhaaBoardEnds
import Derived.Deep.CutBlock
namespace Go.Proofs.Ytkcloaoaldklhaa
open Go.RowKit
set_option linter.unusedVariables false
set_option linter.unusedSimpArgs false
theorem opens_ints22 (w : World) : Opens Try.prog w 35 RInts (bulkL fun x => vbulk [.int .i64 x]) := opens_ints (e := 3) Try.underlying35 (by kernel_rfl) (by kernel_rfl) (by kernel_rfl) w
theorem bulk_ints22 (l : List Int) : l.length ≤ bulkL (fun x => vbulk [.int .i64 x]) l := by
  unfold bulkL
  induction l with
  | nil => simp
  | cons x l ih =>
    simp [vbulk, vb] at ih ⊢
    omega
theorem frNone_below {w w' : World} {B : Nat} (h : Fr w w' (fun _ => False)) (hs : B ≤ w.heap.size) : Below B w w' := h.below (fun _ _ e => e.elim) hs
structure Eb (W w : World) (b g : Nat) (vs : List Value) (S : At.Bd) : Prop where
  bd : BoardAt w b g vs S
  lo : Lo W.heap.size b g vs
  below : Below W.heap.size W w
theorem Eb.step {W w w' : World} {b g : Nat} {vs : List Value} {S S' : At.Bd} (h : Eb W w b g vs S) (hto : BoardTo w b g vs S' w') : ∃ vs', Eb W w' b g vs' S' := by
  obtain ⟨vs', h1, h2⟩ := hto
  exact ⟨vs', h1, h.lo.step h2 h.below.size, h.lo.below h2 h.below⟩
theorem Eb.fr {W w w' : World} {b g : Nat} {vs : List Value} {S : At.Bd} (h : Eb W w b g vs S) (hf : Fr w w' (fun _ => False)) : Eb W w' b g vs S := ⟨h.bd.frNone hf, h.lo, h.below.trans (frNone_below hf h.below.size)⟩
theorem BoardAt.lt {w : World} {b g : Nat} {vs : List Value} {S : At.Bd} (h : BoardAt w b g vs S) : ∀ q, BdS b g vs q → q < w.heap.size := by
  rintro q (rfl | rfl | ⟨v, hv, e⟩)
  · exact h.blk.lt
  · exact h.tsk.lt
  · obtain ⟨i, hi⟩ := List.mem_iff_getElem?.1 hv
    have hil := (List.getElem?_eq_some_iff.1 hi).1
    exact ((h.own i v _ hi (List.getElem?_eq_getElem (by rw [← h.len]; exact hil))).lt _ e).2
theorem Off.of {w : World} {b g : Nat} {vs : List Value} {B q : Nat} (h : ∀ q, BdS b g vs q → q < B) (hB : B ≤ q) (hl : q < w.heap.size) : Off w b g vs q :=
  ⟨hl, fun e => by have := h b (.inl rfl); omega, fun e => by have := h g (.inr (.inl rfl)); omega, fun v hv e => by have := h q (.inr (.inr ⟨v, hv, e⟩)); omega⟩
structure Ek (W w : World) (b g : Nat) (vs : List Value) (S : At.Bd) (i m r wn : Nat) : Prop where
  bd : BoardAt w b g vs S
  en : En S i m r wn
  lo : Lo W.heap.size b g vs
  below : Below W.heap.size W w
theorem Ek.eb {W w : World} {b g : Nat} {vs : List Value} {S : At.Bd} {i m r wn : Nat} (h : Ek W w b g vs S i m r wn) : Eb W w b g vs S := ⟨h.bd, h.lo, h.below⟩
theorem Eb.ek {W w : World} {b g : Nat} {vs : List Value} {S : At.Bd} {i m r wn : Nat} (h : Eb W w b g vs S) (e : En S i m r wn) : Ek W w b g vs S i m r wn := ⟨h.bd, e, h.lo, h.below⟩
set_option maxRecDepth 20000 in
set_option maxHeartbeats 8000000 in
theorem attemptsEnds_walk (W : World) (ma : Int) (wm : (Lit.int .i64 ma).wf = true) (re : Int) (wre : (Lit.int .i64 re).wf = true) (sa : Option Addr) (n sc : Nat) (xs : List Int) (hR : RInts W [.slice sa n sc] xs) (hbk : bulkL (fun x => vbulk [.int .i64 x]) xs ≤ 1048576) :
    Calls Try.prog 4 #[.int .i64 ma, .int .i64 re, .slice sa n sc] W fun e w' => e = .returned (.bool true) ∧ Below W.heap.size W w' := by
  obtain ⟨hn, hnc, hcb, hcm, hel⟩ := rsl_get hR
  have hxl := bulk_ints22 xs
  have HEL := Lib.hid hel
  have HBN : Hid (n ≤ 1048576) := Lib.hid (by omega)
  have HNC : Hid (xs.length = n) := Lib.hid hn
  have hcut0 : (0 ≤ ma ∧ ma ≤ 50 ∧ 0 ≤ re ∧ re ≤ 50) ∨ ma < 0 ∨ (0 ≤ ma ∧ 50 < ma) ∨ (0 ≤ ma ∧ ma ≤ 50 ∧ re < 0) ∨ (0 ≤ ma ∧ ma ≤ 50 ∧ 0 ≤ re ∧ 50 < re) := by omega
  clear hR hn hnc hcb hcm hel wm wre hxl hbk
  go_enter Try.func4, Try.ntmps4
  go_wp2_with fail
  refine (atSpeaks_any W).mono ?_
  rintro _ w1 ⟨rfl, hb⟩
  have HB := Lib.hid hb
  clear hb
  go_upto_region 3 with (fail)
  obtain ⟨bb, hbb⟩ : ∃ bb : Bool, bb = !(decide (0 ≤ ma ∧ ma ≤ 50 ∧ 0 ≤ re ∧ re ≤ 50)) := ⟨_, rfl⟩
  have HBB := Lib.hid hbb
  clear hbb
  go_cut [30] (fun v wc => w1 = wc ∧ v = .bool bb)
  case first =>
    rcases hcut0 with h | h | h | h | h
    · have e0 : bb = false := by rw [HBB.out, decide_eq_true h]; rfl
      have c1 : decide (ma < 0) = false := decide_eq_false (by omega)
      have c2 : decide (50 < ma) = false := decide_eq_false (by omega)
      have c3 : decide (re < 0) = false := decide_eq_false (by omega)
      have c4 : decide (50 < re) = false := decide_eq_false (by omega)
      subst e0
      clear h
      go_wp2
      go_meet
      exact ⟨rfl, rfl⟩
    · have e0 : bb = true := by rw [HBB.out, decide_eq_false (by omega)]; rfl
      have c1 : decide (ma < 0) = true := decide_eq_true (by omega)
      subst e0
      clear h
      go_wp2
      go_meet
      exact ⟨rfl, rfl⟩
    · have e0 : bb = true := by rw [HBB.out, decide_eq_false (by omega)]; rfl
      have c1 : decide (ma < 0) = false := decide_eq_false (by omega)
      have c2 : decide (50 < ma) = true := decide_eq_true (by omega)
      subst e0
      clear h
      go_wp2
      go_meet
      exact ⟨rfl, rfl⟩
    · have e0 : bb = true := by rw [HBB.out, decide_eq_false (by omega)]; rfl
      have c1 : decide (ma < 0) = false := decide_eq_false (by omega)
      have c2 : decide (50 < ma) = false := decide_eq_false (by omega)
      have c3 : decide (re < 0) = true := decide_eq_true (by omega)
      subst e0
      clear h
      go_wp2
      go_meet
      exact ⟨rfl, rfl⟩
    · have e0 : bb = true := by rw [HBB.out, decide_eq_false (by omega)]; rfl
      have c1 : decide (ma < 0) = false := decide_eq_false (by omega)
      have c2 : decide (50 < ma) = false := decide_eq_false (by omega)
      have c3 : decide (re < 0) = false := decide_eq_false (by omega)
      have c4 : decide (50 < re) = true := decide_eq_true (by omega)
      subst e0
      clear h
      go_wp2
      go_meet
      exact ⟨rfl, rfl⟩
  obtain ⟨rfl, rfl⟩ := hcut
  clear hcut0
  go_upto_if 30 with (fail)
  go_cut [0, 1] (fun v0 v1 wc => w1 = wc ∧ ∃ m r : Nat, m ≤ 50 ∧ r ≤ 50 ∧ v0 = .int .i64 (m : Int) ∧ v1 = .int .i64 (r : Int))
  case first =>
    cases bb
    · have hin : 0 ≤ ma ∧ ma ≤ 50 ∧ 0 ≤ re ∧ re ≤ 50 := by
        have := HBB.out
        exact Classical.byContradiction fun h => by rw [decide_eq_false h] at this; cases this
      have HIN := Lib.hid hin
      clear hin
      go_wp2
      go_meet
      exact ⟨rfl, ma.toNat, re.toNat, by have := HIN.out; omega, by have := HIN.out; omega, by have := HIN.out; rw [Int.toNat_of_nonneg (by omega)], by have := HIN.out; rw [Int.toNat_of_nonneg (by omega)]⟩
    · go_wp2
      go_meet
      exact ⟨rfl, 3, 2, by decide, by decide, rfl, rfl⟩
  obtain ⟨rfl, m, r, hm, hr, rfl, rfl⟩ := hcut
  clear HBB
  have HM := Lib.hid (And.intro hm hr)
  clear hm hr
  go_wp2_with fail
  refine (new_c (m : Int) (r : Int) 1 9 w1).mono ?_
  intro e0 w2 h2
  obtain ⟨b, g, vs0, rfl, hbd, hnv, hb1, hg1, hbe⟩ := h2
  have K0 : Hid (Ek W w2 b g vs0 (At.new (m : Int) (r : Int) 1 9) 0 m r 0) := Lib.hid ⟨hbd, En.new m r HM.out.1 HM.out.2, ⟨Nat.le_trans HB.out.size hb1, Nat.le_trans HB.out.size hg1, fun v hv q hq => by rw [hnv v hv] at hq; cases hq⟩, HB.out.trans (hbe.mono HB.out.size)⟩
  clear hbd hnv hb1 hg1 hbe HB
  generalize At.new (m : Int) (r : Int) 1 9 = S0 at K0
  obtain ⟨e, he⟩ : ∃ e : Nat, e = m + r := ⟨_, rfl⟩
  obtain ⟨tot, htot⟩ : ∃ tot : Nat, tot = e + n := ⟨_, rfl⟩
  have HE := Lib.hid he
  have HT : Hid (tot = e + n ∧ e ≤ 100 ∧ n ≤ 1048576) := Lib.hid ⟨htot, by have := HM.out; omega, HBN.out⟩
  have e1 : wrap64 ((m : Int) + (r : Int)) = (e : Int) := by have := HM.out; rw [he]; unfold wrap64; omega
  have e2 : IntKind.i64.wrap ((m : Int) + (r : Int)) = (e : Int) := by have := HM.out; rw [he, IntKind.wrap_i64]; omega
  have e3 : (m : Int) + (r : Int) = (e : Int) := by omega
  have e4 : IntKind.i64.wrap (e : Int) = (e : Int) := by have := HT.out; rw [IntKind.wrap_i64]; omega
  have e5 : wrap64 (e : Int) = (e : Int) := by have := HT.out; unfold wrap64; omega
  have f1 : wrap64 ((e : Int) + (n : Int)) = (tot : Int) := by have := HT.out; unfold wrap64; omega
  have f2 : IntKind.i64.wrap ((e : Int) + (n : Int)) = (tot : Int) := by have := HT.out; rw [IntKind.wrap_i64]; omega
  have f3 : (e : Int) + (n : Int) = (tot : Int) := by omega
  have f4 : IntKind.i64.wrap (tot : Int) = (tot : Int) := by have := HT.out; rw [IntKind.wrap_i64]; omega
  have f5 : wrap64 (tot : Int) = (tot : Int) := by have := HT.out; unfold wrap64; omega
  have HEF := Lib.hid (And.intro e1 (And.intro e2 (And.intro e3 (And.intro e4 (And.intro e5 (And.intro f1 (And.intro f2 (And.intro f3 (And.intro f4 f5)))))))))
  clear he htot e1 e2 e3 e4 e5 f1 f2 f3 f4 f5
  go_wp2_with fail
  go_loopg [8, 9] tot (fun gg wv iv wr => ∃ (k wn : Nat) (vs : List Value) (S : At.Bd), wv = .int .i64 (wn : Int) ∧ iv = .int .i64 (k : Int) ∧ k + gg = tot ∧ k ≤ wn + min k n ∧ wn ≤ k ∧ Hid (Ek W wr b g vs S k m r wn))
  case atStart => exact ⟨0, 0, vs0, S0, rfl, rfl, by omega, Nat.zero_le _, Nat.le_refl _, K0⟩
  case round =>
    obtain ⟨k, wn, vs, S, rfl, rfl, hgg, hwk, hwk2, E⟩ := hrel
    have HK : Hid (k + gk = tot ∧ k ≤ wn + min k n ∧ wn ≤ k) := Lib.hid ⟨hgg, hwk, hwk2⟩
    clear hgg hwk hwk2 K0
    by_cases hlt : k < tot
    · have t1 : decide ((k : Int) < (tot : Int)) = true := decide_eq_true (by omega)
      have t1n : decide (k < tot) = true := decide_eq_true hlt
      have HLT := Lib.hid hlt
      have HKN : Hid (k ≤ 2000000) := Lib.hid (by have := HT.out; omega)
      clear hlt
      obtain ⟨e1, e2, e3, e4, e5, f1, f2, f3, f4, f5⟩ := HEF.out
      go_wp2_with fail
      clear e1 e2 e3 e4 e5 f1 f2 f3 f4 f5
      refine (ready_any b g vs S k E.out.en.ok (by have := HKN.out; omega) 1 (k : Int) wr E.out.bd).mono ?_
      intro ee w6 h6
      obtain ⟨v6, rfl, ho, hbe⟩ := h6
      have hf6 : Fr wr w6 (fun _ => False) := Fr.of_below hbe fun q h1 h2 => absurd h2 (Nat.not_lt.2 h1)
      have E6 : Hid (Ek W w6 b g vs S k m r wn) := Lib.hid ((E.out.eb.fr hf6).ek E.out.en)
      have HRM := Lib.hid (fun (x : Int) (h : x ∈ At.ready S 1 (k : Int)) => ready_mem h)
      have HRN := Lib.hid (fun (h : At.ready S 1 (k : Int) = []) => E.out.en.none h)
      generalize At.ready S 1 (k : Int) = lst at ho HRM HRN
      have HBL := Lib.hid E.out.bd.lt
      obtain ⟨A6, c6, rfl⟩ := own_slice ho
      have HO := Lib.hid ho
      clear ho hbe hf6 E
      generalize wr.heap.size = B6 at HO HBL
      cases lst with
      | nil =>
        have HALL := Lib.hid (HRN.out rfl)
        clear HRN HRM HO
        have E := E6
        clear E6
        simp only [List.length_nil]
        generalize w6 = wr at E ⊢
        have HD := Lib.hid (E.out.en.done HALL.out)
        have hsum : wn = m + r := HD.out.2
        have o1 : ((wn : Int) == (e : Int)) = true := by rw [show (wn : Int) = (e : Int) by have := HE.out; omega]; exact beq_self_eq_true _
        have o1n : (wn == e) = true := by rw [show wn = e by have := HE.out; omega]; exact beq_self_eq_true _
        have BX := Lib.hid E.out.bd
        have BLX := Lib.hid E.out.below
        have hwo := winner_c b g vs S (HD.out.1.ok.use (by have := HT.out; have := HK.out; omega)).wf HD.out.1.ok.win (e : Int) wr BX.out
        rw [winner_out (S := S) (t := (e : Int)) (by have := HD.out.1.len; have := HE.out; omega)] at hwo
        have HWO := Lib.hid hwo
        have hfi := fin_c b g vs S HD.out.1.ok.len HD.out.1.ok.maps wr BX.out
        rw [HD.out.1.fin] at hfi
        have HFI := Lib.hid hfi
        clear hwo hfi hsum
        obtain ⟨e1, e2, e3, e4, e5, f1, f2, f3, f4, f5⟩ := HEF.out
        go_wp2_with fail
        refine HWO.out.mono ?_
        rintro _ _ ⟨rfl, rfl⟩
        go_wp2_with fail
        refine HFI.out.mono ?_
        rintro _ w7 ⟨rfl, hf7⟩
        clear e1 e2 e3 e4 e5 f1 f2 f3 f4 f5
        have B7 := Lib.hid (BX.out.frNone hf7)
        have BL7 := Lib.hid (BLX.out.trans (frNone_below hf7 BLX.out.size))
        have hde := dead_c b g vs S w7 B7.out
        rw [HD.out.1.dead] at hde
        have HDE := Lib.hid hde
        have HLO := Lib.hid E.out.lo
        have hst := start_c b g vs S 0 1 99 w7 B7.out k (HD.out.1.ok.use (by have := HT.out; have := HK.out; omega)) (by have := HT.out; have := HK.out; omega)
        rw [HD.out.1.start] at hst
        have HST := Lib.hid hst
        clear hf7 hde hst
        go_wp2_with fail
        refine HDE.out.mono ?_
        rintro _ _ ⟨rfl, rfl⟩
        go_wp2_with fail
        refine HST.out.mono ?_
        rintro _ w8 ⟨rfl, vs8, _, r8⟩
        have BL8 := Lib.hid (HLO.out.below r8 BL7.out)
        clear r8
        go_wp2_with fail
        go_ret
        exact ⟨rfl, BL8.out⟩
      | cons y tl =>
        obtain ⟨c, tk, rfl, htk, hmay⟩ := HRM.out y (by simp)
        obtain ⟨g6, cp6, hv6, hg6, hgl, hC⟩ := own_some HO.out (by simp)
        cases hv6
        have y0 : w6.cell? ⟨g6, 0, none⟩ = some (.int .i64 (c : Int)) := (hC.get (j := 0) rfl).1
        have OF6 : Hid (Off w6 b g vs g6) := Lib.hid (Off.of HBL.out hg6 hgl)
        obtain ⟨ll, hll⟩ : ∃ ll, ll = ((c : Int) :: tl).length := ⟨_, rfl⟩
        rw [← hll] at HO ⊢
        have HLL : Hid (0 < ll) := Lib.hid (by rw [hll]; simp)
        have hO0 := HO.out
        obtain ⟨ents, hents⟩ : ∃ ents, ents = ints ((c : Int) :: tl) := ⟨_, rfl⟩
        have HEN0 : Hid (ents[0]? = some (.int .i64 (c : Int))) := Lib.hid (by rw [hents]; rfl)
        rw [← hents] at HO hO0
        clear hO0 hents hll hC hg6 hgl HRM HRN HBL
        have l1 : ((ll : Int) == 0) = false := beq_eq_false_iff_ne.2 (by have := HLL.out; omega)
        have l1n : (ll == 0) = false := beq_eq_false_iff_ne.2 (by have := HLL.out; omega)
        have l2 : (0 : Int) < (ll : Int) := by have := HLL.out; omega
        have l2n : 0 < ll := HLL.out
        have htl : tk.tries.length ≤ k := (E6.out.en.ok.tk tk (List.mem_of_getElem? htk)).len
        have hs1 : (At.start S (c : Int) 1 (k : Int)).1 = (tk.tries.length : Int) + 1 := congrArg Prod.fst (start_is E6.out.en htk hmay (k : Int))
        have hF := E6.out.en.ended htk hmay (k : Int) 2 (.inr rfl)
        have hQ := E6.out.en.ended htk hmay (k : Int) 1 (.inl rfl)
        have hG := E6.out.en.gone htk hmay (k : Int)
        have hb1 := start_bok E6.out.en.ok (c : Int) 1 (k : Int)
        have hst := start_c b g vs S (c : Int) 1 (k : Int) w6 E6.out.bd k (E6.out.en.ok.use (by have := HKN.out; omega)) (by have := HKN.out; omega)
        rw [if_neg (by decide)] at hF
        rw [if_pos rfl] at hQ
        rw [hs1] at hst
        generalize (At.start S (c : Int) 1 (k : Int)).2 = S1 at hF hQ hG hb1 hst
        obtain ⟨nn, hnn⟩ : ∃ nn : Int, nn = (tk.tries.length : Int) + 1 := ⟨_, rfl⟩
        rw [← hnn] at hF hQ hst
        have n0 : (nn == 0) = false := beq_eq_false_iff_ne.2 (by omega)
        have HF := Lib.hid hF
        have HQ := Lib.hid hQ
        have HG := Lib.hid hG
        have HB1 := Lib.hid hb1
        have HST := Lib.hid hst
        clear hF hQ hG hb1 hst hs1 htl hnn htk hmay
        go_wp2_with fail
        refine HST.out.mono ?_
        rintro _ w7 ⟨rfl, vs7, h7, r7⟩
        have E7 : Hid (Eb W w7 b g vs7 S1) := Lib.hid ⟨h7, E6.out.lo.step r7 E6.out.below.size, E6.out.lo.below r7 E6.out.below⟩
        have OF7 := Lib.hid (OF6.out.step r7)
        have HO7 := Lib.hid (own_fr HO.out r7.fr (fun q hq => by cases hq; exact OF6.out.not))
        clear h7 r7 HO OF6 E6 y0 HST
        have y7 : w7.cell? ⟨g6, 0, none⟩ = some (.int .i64 (c : Int)) := (HO7.out.cellAt 0 (by have := HLL.out; omega)).trans HEN0.out
        by_cases hkn : k < n
        · have s1 : decide ((k : Int) < (n : Int)) = true := decide_eq_true (by omega)
          have s1n : decide (k < n) = true := decide_eq_true hkn
          obtain ⟨fv, hfv⟩ : ∃ fv, xs[k]? = some fv := ⟨xs[k]'(by have := HNC.out; omega), List.getElem?_eq_getElem _⟩
          obtain ⟨bf, off, rfl, hbW, _, hcell⟩ := HEL.out k fv hfv
          have dW : W.cell? ⟨bf, off + k, none⟩ = some (.int .i64 fv) := by
            have := hcell 0 (.int .i64 fv) rfl
            rwa [Nat.mul_one, Nat.add_zero] at this
          have d7 : w7.cell? ⟨bf, off + k, none⟩ = some (.int .i64 fv) := (World.cell?_of_block (E7.out.below.block bf hbW)).trans dW
          have ka : ((k : Int)).toNat = k := by omega
          have kp : (0 : Int) ≤ (k : Int) := by omega
          have kz : (k : Int) < (n : Int) := by omega
          have HKK := Lib.hid hkn
          clear hcell hfv hkn dW
          go_upto_block 2 with (fail)
          clear d7
          generalize fv.tmod 3 = q
          by_cases hq1 : q = 1
          · have q1 : (q == 1) = true := by rw [hq1]; rfl
            have hrp := report_c b g vs7 S1 (c : Int) nn 2 w7 E7.out.bd (k + 1) (HB1.out.use (by have := HKN.out; omega)) (by have := HKN.out; omega)
            rw [HF.out.1] at hrp
            have HRP := Lib.hid hrp
            have kw : k + 1 < 2000002 := by have := HKN.out; omega
            clear hrp hq1
            go_wp2_with fail
            refine HRP.out.mono ?_
            rintro _ w8 ⟨rfl, h8⟩
            obtain ⟨vs8, E8⟩ := E7.out.step h8
            have EN := Lib.hid (E8.ek HF.out.2)
            clear h8 E8
            go_wp2_with fail
            clear kw
            go_roundg (tot - (k + 1))
            case measure => have := HLT.out; have := HK.out; omega
            case rel => exact ⟨k + 1, wn, vs8, _, rfl, by first | rfl | go_num, by have := HLT.out; omega, by have := HKK.out; have := HK.out; omega, by have := HK.out; omega, EN⟩
          · have q1 : (q == 1) = false := beq_eq_false_iff_ne.2 hq1
            by_cases hq2 : q = 2
            · have q2 : (q == 2) = true := by rw [hq2]; rfl
              have HGO := Lib.hid (gone_c b g vs7 S1 HB1.out.len (fun t ht => by have := (HB1.out.tk t ht).len; have := HKN.out; omega) 1 w7 E7.out.bd)
              have kw : k + 1 < 2000002 := by have := HKN.out; omega
              clear hq1 hq2
              go_wp2_with fail
              refine HGO.out.mono ?_
              rintro _ w8 ⟨rfl, h8, r8⟩
              have E8 : Hid (Eb W w8 b g vs7 (At.gone S1 1)) := Lib.hid ⟨h8, E7.out.lo.step r8 E7.out.below.size, E7.out.lo.below r8 E7.out.below⟩
              have HO8 := Lib.hid (own_fr HO7.out r8.fr (fun q hq => by cases hq; exact OF7.out.not))
              have y8 : w8.cell? ⟨g6, 0, none⟩ = some (.int .i64 (c : Int)) := (HO8.out.cellAt 0 (by have := HLL.out; omega)).trans HEN0.out
              have hrp := report_c b g vs7 (At.gone S1 1) (c : Int) nn 1 w8 E8.out.bd (k + 1) (HG.out.ok.use (by have := HKN.out; omega)) (by have := HKN.out; omega)
              rw [quiet_report HG.out.quiet] at hrp
              have HRP := Lib.hid hrp
              clear hrp h8 r8 y7 HGO
              go_wp2_with fail
              refine HRP.out.mono ?_
              rintro _ w9 ⟨rfl, h9⟩
              obtain ⟨vs9, E9⟩ := E8.out.step h9
              have EN := Lib.hid (E9.ek HG.out)
              clear h9 E9
              go_wp2_with fail
              clear kw
              go_roundg (tot - (k + 1))
              case measure => have := HLT.out; have := HK.out; omega
              case rel => exact ⟨k + 1, wn, vs9, _, rfl, by first | rfl | go_num, by have := HLT.out; omega, by have := HKK.out; have := HK.out; omega, by have := HK.out; omega, EN⟩
            · have q2 : (q == 2) = false := beq_eq_false_iff_ne.2 hq2
              clear hq1 hq2
              have hrp := report_c b g vs7 S1 (c : Int) nn 1 w7 E7.out.bd (k + 1) (HB1.out.use (by have := HKN.out; omega)) (by have := HKN.out; omega)
              rw [HQ.out.1] at hrp
              have HRP := Lib.hid hrp
              have kw : k + 1 < 2000002 := by have := HKN.out; omega
              have ww : wn + 1 < 2000002 := by have := HKN.out; have := HK.out; omega
              clear hrp
              go_wp2_with fail
              refine HRP.out.mono ?_
              rintro _ w8 ⟨rfl, vs8, h8, r8⟩
              have E8 : Hid (Eb W w8 b g vs8 (At.report S1 (c : Int) nn 1).2) := Lib.hid ⟨h8, E7.out.lo.step r8 E7.out.below.size, E7.out.lo.below r8 E7.out.below⟩
              have HO8 := Lib.hid (own_fr HO7.out r8.fr (fun q hq => by cases hq; exact OF7.out.not))
              have y8 : w8.cell? ⟨g6, 0, none⟩ = some (.int .i64 (c : Int)) := (HO8.out.cellAt 0 (by have := HLL.out; omega)).trans HEN0.out
              have hrp := report_c b g vs8 (At.report S1 (c : Int) nn 1).2 (c : Int) nn 1 w8 E8.out.bd (k + 1) (HQ.out.2.ok.use (by have := HKN.out; omega)) (by have := HKN.out; omega)
              rw [quiet_report HQ.out.2.quiet] at hrp
              have HRP2 := Lib.hid hrp
              clear hrp h8 r8 y7
              go_wp2_with fail
              refine HRP2.out.mono ?_
              rintro _ w9 ⟨rfl, h9⟩
              obtain ⟨vs9, E9⟩ := E8.out.step h9
              have EN := Lib.hid (E9.ek HQ.out.2)
              clear h9 E9
              go_wp2_with fail
              clear kw ww
              go_roundg (tot - (k + 1))
              case measure => have := HLT.out; have := HK.out; omega
              case rel => exact ⟨k + 1, wn + 1, vs9, _, by first | rfl | go_num, by first | rfl | go_num, by have := HLT.out; omega, by have := HKK.out; have := HK.out; omega, by have := HK.out; omega, EN⟩
        · have s1 : decide ((k : Int) < (n : Int)) = false := decide_eq_false (by omega)
          have s1n : decide (k < n) = false := decide_eq_false hkn
          have HKK := Lib.hid hkn
          clear hkn
          have hrp := report_c b g vs7 S1 (c : Int) nn 1 w7 E7.out.bd (k + 1) (HB1.out.use (by have := HKN.out; omega)) (by have := HKN.out; omega)
          rw [HQ.out.1] at hrp
          have HRP := Lib.hid hrp
          have kw : k + 1 < 2000002 := by have := HKN.out; omega
          have ww : wn + 1 < 2000002 := by have := HKN.out; have := HK.out; omega
          clear hrp
          go_wp2_with fail
          refine HRP.out.mono ?_
          rintro _ w8 ⟨rfl, vs8, h8, r8⟩
          have E8 : Hid (Eb W w8 b g vs8 (At.report S1 (c : Int) nn 1).2) := Lib.hid ⟨h8, E7.out.lo.step r8 E7.out.below.size, E7.out.lo.below r8 E7.out.below⟩
          have HO8 := Lib.hid (own_fr HO7.out r8.fr (fun q hq => by cases hq; exact OF7.out.not))
          have y8 : w8.cell? ⟨g6, 0, none⟩ = some (.int .i64 (c : Int)) := (HO8.out.cellAt 0 (by have := HLL.out; omega)).trans HEN0.out
          have hrp := report_c b g vs8 (At.report S1 (c : Int) nn 1).2 (c : Int) nn 1 w8 E8.out.bd (k + 1) (HQ.out.2.ok.use (by have := HKN.out; omega)) (by have := HKN.out; omega)
          rw [quiet_report HQ.out.2.quiet] at hrp
          have HRP2 := Lib.hid hrp
          clear hrp h8 r8 y7
          go_wp2_with fail
          refine HRP2.out.mono ?_
          rintro _ w9 ⟨rfl, h9⟩
          obtain ⟨vs9, E9⟩ := E8.out.step h9
          have EN := Lib.hid (E9.ek HQ.out.2)
          clear h9 E9
          go_wp2_with fail
          clear kw ww
          go_roundg (tot - (k + 1))
          case measure => have := HLT.out; have := HK.out; omega
          case rel => exact ⟨k + 1, wn + 1, vs9, _, by first | rfl | go_num, by first | rfl | go_num, by have := HLT.out; omega, by have := HKK.out; have := HK.out; omega, by have := HK.out; omega, EN⟩
    · have t1 : decide ((k : Int) < (tot : Int)) = false := decide_eq_false (by omega)
      have t1n : decide (k < tot) = false := decide_eq_false hlt
      have HALL : Hid (∀ q ∈ S.tasks, q.winner ≠ 0) := Lib.hid (won_all.1 (by
        have h1 := wonN_le S
        have h2 := E.out.en.won
        have h3 := E.out.en.len
        have := HK.out
        have := HT.out
        have := HE.out
        omega))
      clear hlt HEL
      have HD := Lib.hid (E.out.en.done HALL.out)
      have hsum : wn = m + r := HD.out.2
      have o1 : ((wn : Int) == (e : Int)) = true := by rw [show (wn : Int) = (e : Int) by have := HE.out; omega]; exact beq_self_eq_true _
      have o1n : (wn == e) = true := by rw [show wn = e by have := HE.out; omega]; exact beq_self_eq_true _
      have BX := Lib.hid E.out.bd
      have BLX := Lib.hid E.out.below
      have hwo := winner_c b g vs S (HD.out.1.ok.use (by have := HT.out; have := HK.out; omega)).wf HD.out.1.ok.win (e : Int) wr BX.out
      rw [winner_out (S := S) (t := (e : Int)) (by have := HD.out.1.len; have := HE.out; omega)] at hwo
      have HWO := Lib.hid hwo
      have hfi := fin_c b g vs S HD.out.1.ok.len HD.out.1.ok.maps wr BX.out
      rw [HD.out.1.fin] at hfi
      have HFI := Lib.hid hfi
      clear hwo hfi hsum
      obtain ⟨e1, e2, e3, e4, e5, f1, f2, f3, f4, f5⟩ := HEF.out
      go_wp2_with fail
      refine HWO.out.mono ?_
      rintro _ _ ⟨rfl, rfl⟩
      go_wp2_with fail
      refine HFI.out.mono ?_
      rintro _ w7 ⟨rfl, hf7⟩
      clear e1 e2 e3 e4 e5 f1 f2 f3 f4 f5
      have B7 := Lib.hid (BX.out.frNone hf7)
      have BL7 := Lib.hid (BLX.out.trans (frNone_below hf7 BLX.out.size))
      have hde := dead_c b g vs S w7 B7.out
      rw [HD.out.1.dead] at hde
      have HDE := Lib.hid hde
      have HLO := Lib.hid E.out.lo
      have hst := start_c b g vs S 0 1 99 w7 B7.out k (HD.out.1.ok.use (by have := HT.out; have := HK.out; omega)) (by have := HT.out; have := HK.out; omega)
      rw [HD.out.1.start] at hst
      have HST := Lib.hid hst
      clear hf7 hde hst
      go_wp2_with fail
      refine HDE.out.mono ?_
      rintro _ _ ⟨rfl, rfl⟩
      go_wp2_with fail
      refine HST.out.mono ?_
      rintro _ w8 ⟨rfl, vs8, _, r8⟩
      have BL8 := Lib.hid (HLO.out.below r8 BL7.out)
      clear r8
      go_wp2_with fail
      go_ret
      exact ⟨rfl, BL8.out⟩
end Go.Proofs.Ytkcloaoaldklhaa
