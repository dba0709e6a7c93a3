/- attempts: the reference's board: may, Finished, Dead. (Under way.) -/
import Derived.Test.YtkcloaoaldklhaaAttRef
namespace Ar
def wonI (S : Bd) (k : Nat) : Bool := (List.range k).all fun i => won S (i : Int)
theorem wonI_succ (S : Bd) (k : Nat) : wonI S (k + 1) = (wonI S k && won S (k : Int)) := by unfold wonI; rw [List.range_succ, List.all_append]; simp
theorem wonI_le (S : Bd) {k n : Nat} (h : k ≤ n) (hf : wonI S k = false) : wonI S n = false := by
  induction n with
  | zero => obtain rfl : k = 0 := by omega
            exact hf
  | succ n ih =>
    by_cases e : k = n + 1
    · subst e; exact hf
    · rw [wonI_succ, ih (by omega)]; rfl
def finI (S : Bd) (k : Nat) : Bool := (List.range k).all fun i => won S ((S.maps + i : Nat) : Int)
theorem finI_succ (S : Bd) (k : Nat) : finI S (k + 1) = (finI S k && won S ((S.maps + k : Nat) : Int)) := by unfold finI; rw [List.range_succ, List.all_append]; simp
theorem finI_le (S : Bd) {k n : Nat} (h : k ≤ n) (hf : finI S k = false) : finI S n = false := by
  induction n with
  | zero => obtain rfl : k = 0 := by omega
            exact hf
  | succ n ih =>
    by_cases e : k = n + 1
    · subst e; exact hf
    · rw [finI_succ, ih (by omega)]; rfl
def deadI (S : Bd) (k : Nat) : Bool := (List.range k).any fun t => decide (S.limit ≤ (S.l.countP (isFull (t : Int)) : Int))
theorem deadI_succ (S : Bd) (k : Nat) : deadI S (k + 1) = (deadI S k || decide (S.limit ≤ (S.l.countP (isFull (k : Int)) : Int))) := by unfold deadI; rw [List.range_succ, List.any_append]; simp
theorem deadI_le (S : Bd) {k n : Nat} (h : k ≤ n) (hf : deadI S k = true) : deadI S n = true := by
  induction n with
  | zero => obtain rfl : k = 0 := by omega
            exact hf
  | succ n ih =>
    by_cases e : k = n + 1
    · subst e; exact hf
    · rw [deadI_succ, ih (by omega)]; rfl
theorem count_succ {l : List Try} {k : Nat} {x : Try} (hx : l[k]? = some x) (f : Try → Bool) : (l.take (k + 1)).countP f = (l.take k).countP f + if f x = true then 1 else 0 := by
  rw [List.take_add_one, hx, List.countP_append]
  simp [List.countP_cons]
end Ar
namespace Go.Proofs.Ytkcloaoaldklhaa
open Go.RowKit
set_option linter.unusedVariables false
set_option linter.unusedSimpArgs false
set_option maxRecDepth 20000 in
set_option maxHeartbeats 4000000 in
theorem rmay_c (B rt : Nat) (v : Value) (S : Ar.Bd) (t : Int) (w : World) (h : RefAt w B rt v S) (hn : S.l.length < 4000000000000) (hm : S.maps ≤ 5000) :
    Calls Try.prog 32 #[.pointer (some ⟨rt, 0, none⟩), .int .i64 t] w fun e w' => e = .returned (.bool (Ar.may S t)) ∧ w = w' := by
  have HW : Hid (∀ u, Calls Try.prog 22 #[.pointer (some ⟨rt, 0, none⟩), .int .i64 u] w fun e w' => e = .returned (.int .i64 (Ar.idx (Ar.hit u) S.l)) ∧ w = w') := Lib.hid fun u => rwin_c B rt v S u w h hn
  have HNG : Hid (∀ u, decide (Ar.idx (Ar.hit u) S.l < 0) = !Ar.won S u) := Lib.hid fun u => Ar.idx_neg _ _
  have HGE : Hid (∀ u, decide (0 ≤ Ar.idx (Ar.hit u) S.l) = Ar.won S u) := Lib.hid fun u => Ar.idx_any _ _
  have z1 : w.cell? ⟨rt, 0, none⟩ = some (.int .i64 (S.maps : Int)) := h.blk.cell 0
  have HM := Lib.hid hm
  have HMY : Hid (Ar.may S t = (!Ar.won S t && (decide (t < (S.maps : Int)) || Ar.wonI S S.maps))) := Lib.hid rfl
  clear h hn hm
  obtain ⟨m, hmm⟩ : ∃ m, m = S.maps := ⟨_, rfl⟩
  rw [← hmm] at z1 HM HMY
  clear hmm
  have g1 := HNG.out t
  have g2 := HGE.out t
  have c1 := HW.out t
  generalize Ar.idx (Ar.hit t) S.l = ix at g1 g2 c1
  have C1 := Lib.hid c1
  clear c1
  cases hq : Ar.won S t with
  | true =>
    rw [hq] at g1 g2 HMY
    have HF : Hid (Ar.may S t = false) := Lib.hid HMY.out
    clear hq
    go_enter Try.func32, Try.ntmps32
    go_wp2_with fail
    refine C1.out.mono ?_
    rintro _ _ ⟨rfl, rfl⟩
    go_wp2_with fail
    go_ret
    exact ⟨ret_bool HF.out.symm, rfl⟩
  | false =>
    rw [hq] at g1 g2 HMY
    clear hq
    by_cases ht : t < (m : Int)
    · have t1 : decide (t < (m : Int)) = true := decide_eq_true ht
      rw [t1] at HMY
      have HF : Hid (Ar.may S t = true) := Lib.hid HMY.out
      clear ht
      go_enter Try.func32, Try.ntmps32
      go_wp2_with fail
      refine C1.out.mono ?_
      rintro _ _ ⟨rfl, rfl⟩
      go_wp2_with fail
      go_ret
      exact ⟨ret_bool HF.out.symm, rfl⟩
    · have t1 : decide (t < (m : Int)) = false := decide_eq_false ht
      rw [t1] at HMY
      have HF : Hid (Ar.may S t = Ar.wonI S m) := Lib.hid HMY.out
      clear ht
      go_enter Try.func32, Try.ntmps32
      go_wp2_with fail
      refine C1.out.mono ?_
      rintro _ _ ⟨rfl, rfl⟩
      go_wp2_with fail
      clear g1 g2 t1
      go_loopg [5] m (fun g v5 wr => ∃ k : Nat, v5 = .int .i64 (k : Int) ∧ k + g = m ∧ Hid (Ar.wonI S k = true) ∧ w = wr)
      case atStart => exact ⟨0, rfl, by omega, Lib.hid rfl, rfl⟩
      case round =>
        obtain ⟨k, rfl, hk, HB, rfl⟩ := hrel
        have HK := Lib.hid hk
        by_cases hlt : k < m
        · have t1 : decide ((k : Int) < (m : Int)) = true := decide_eq_true (by omega)
          have t1n : decide (k < m) = true := decide_eq_true hlt
          have HLT := Lib.hid hlt
          have kw : k + 1 < 100000 := by have := HM.out; omega
          have g1 := HNG.out (k : Int)
          have c1 := HW.out (k : Int)
          generalize Ar.idx (Ar.hit (k : Int)) S.l = iy at g1 c1
          have C2 := Lib.hid c1
          clear c1 hlt hk
          cases hq : Ar.won S (k : Int) with
          | true =>
            rw [hq] at g1
            have HB2 : Hid (Ar.wonI S (k + 1) = true) := Lib.hid (by rw [Ar.wonI_succ, HB.out, hq]; rfl)
            clear hq
            go_wp2_with fail
            refine C2.out.mono ?_
            rintro _ _ ⟨rfl, rfl⟩
            go_wp2_with fail
            clear kw
            go_roundg (m - (k + 1))
            case measure => have := HK.out; have := HLT.out; omega
            case rel => exact ⟨k + 1, by first | rfl | go_num, by have := HK.out; have := HLT.out; omega, HB2, rfl⟩
          | false =>
            rw [hq] at g1
            have HB2 : Hid (Ar.wonI S m = false) := Lib.hid (Ar.wonI_le S (k := k + 1) (by have := HLT.out; omega) (by rw [Ar.wonI_succ, hq, Bool.and_false]))
            clear hq
            go_wp2_with fail
            refine C2.out.mono ?_
            rintro _ _ ⟨rfl, rfl⟩
            go_wp2_with fail
            go_ret
            exact ⟨ret_bool (HF.out.trans HB2.out).symm, rfl⟩
        · have t1 : decide ((k : Int) < (m : Int)) = false := decide_eq_false (by omega)
          have t1n : decide (k < m) = false := decide_eq_false hlt
          obtain rfl : k = m := by omega
          clear hlt hk
          go_wp2_with fail
          go_ret
          exact ⟨ret_bool (HF.out.trans HB.out).symm, rfl⟩
/-- only draws -/
def Dr (w w' : World) : Prop := ∃ d, w' = w.drewN d
theorem Dr.refl (w : World) : Dr w w := ⟨0, rfl⟩
theorem Dr.more {w w' : World} (h : Dr w w') (n : Nat) : Dr w (w'.drewN n) := by
  obtain ⟨d, rfl⟩ := h
  exact ⟨d + n, World.drewN_drewN ..⟩
theorem Dr.fr {w w' : World} (h : Dr w w') : Fr w w' (fun _ => False) := by
  obtain ⟨d, rfl⟩ := h
  exact (Fr.refl w _).drewN d
theorem Dr.of {w w' : World} {n : Nat} (h : Dr (w.drewN n) w') : ∃ m, w' = w.drewN m := by
  obtain ⟨d, rfl⟩ := h
  exact ⟨n + d, World.drewN_drewN ..⟩
set_option maxRecDepth 20000 in
set_option maxHeartbeats 4000000 in
theorem rfin_c (B rt : Nat) (v : Value) (S : Ar.Bd) (w : World) (h : RefAt w B rt v S) (hn : S.l.length < 4000000000000) (hm : S.maps ≤ 5000) (hr : S.reds ≤ 5000) :
    Calls Try.prog 25 #[.pointer (some ⟨rt, 0, none⟩)] w fun e w' => e = .returned (.bool (Ar.fin S)) ∧ Dr w w' := by
  have H := Lib.hid h
  have HN := Lib.hid hn
  have HNG : Hid (∀ u, decide (Ar.idx (Ar.hit u) S.l < 0) = !Ar.won S u) := Lib.hid fun u => Ar.idx_neg _ _
  have HF : Hid (Ar.fin S = Ar.finI S S.reds) := Lib.hid rfl
  have HNX : Hid (∀ k, Ar.finI S (k + 1) = (Ar.finI S k && Ar.won S ((S.maps + k : Nat) : Int))) := Lib.hid (Ar.finI_succ S)
  have z0 : w.cell? ⟨rt, 0, none⟩ = some (.int .i64 (S.maps : Int)) := h.blk.cell 0
  have HBK := Lib.hid h.blk
  obtain ⟨m, hmm⟩ : ∃ m, m = S.maps := ⟨_, rfl⟩
  obtain ⟨r, hrr⟩ : ∃ r, r = S.reds := ⟨_, rfl⟩
  rw [← hmm] at HBK HNX hm z0
  rw [← hrr] at HBK HF hr
  have HM := Lib.hid (And.intro hm hr)
  clear h hn hm hr hmm hrr
  have e1 : IntKind.i64.wrap ((m : Int) + (r : Int)) = (m : Int) + (r : Int) := by have := HM.out; rw [IntKind.wrap_i64]; omega
  have e2 : wrap64 ((m : Int) + (r : Int)) = (m : Int) + (r : Int) := by have := HM.out; unfold wrap64; omega
  go_enter Try.func25, Try.ntmps25
  go_wp2_with fail
  clear z0
  go_loopg [3] r (fun g v5 wr => ∃ j : Nat, v5 = .int .i64 (j : Int) ∧ (∃ k, j = m + k ∧ k + g = r ∧ Hid (Ar.finI S k = true)) ∧ Hid (Dr w wr))
  case atStart => exact ⟨m, rfl, ⟨0, rfl, by omega, Lib.hid rfl⟩, Lib.hid (Dr.refl _)⟩
  case round =>
    obtain ⟨j, rfl, ⟨k, hj, hk, HB⟩, HFR⟩ := hrel
    have HK := Lib.hid (And.intro hj hk)
    have HJ := Lib.hid hj
    have z0 : ∀ d, (wr.drewN d).cell? ⟨rt, 0, none⟩ = some (.int .i64 (m : Int)) := fun d => (HBK.out.fr HFR.out.fr (fun e => e)).cell 0
    have z1 : ∀ d, (wr.drewN d).cell? ⟨rt, 1, none⟩ = some (.int .i64 (r : Int)) := fun d => (HBK.out.fr HFR.out.fr (fun e => e)).cell 1
    go_upto_region 2 with (fail)
    go_quiet (fail)
    have HFQ := Lib.hid (HFR.out.more nq)
    have HRQ := Lib.hid (H.out.frNone HFQ.out.fr)
    clear z0 z1 HFR
    generalize wr.drewN nq = w3 at HFQ HRQ ⊢
    by_cases hlt : k < r
    · have t1 : decide ((j : Int) < (m : Int) + (r : Int)) = true := decide_eq_true (by omega)
      have t1n : decide (j < m + r) = true := decide_eq_true (by omega)
      have HLT := Lib.hid hlt
      have kw : j + 1 < 100000 := by have := HM.out; omega
      have g1 := HNG.out (j : Int)
      have c1 := rwin_c B rt v S (j : Int) w3 HRQ.out HN.out
      generalize Ar.idx (Ar.hit (j : Int)) S.l = iy at g1 c1
      have C2 := Lib.hid c1
      clear c1 hlt hk hj
      cases hq : Ar.won S (j : Int) with
      | true =>
        rw [hq] at g1
        have HB2 : Hid (Ar.finI S (k + 1) = true) := Lib.hid (by rw [HNX.out, ← HJ.out, HB.out, hq]; rfl)
        clear hq
        go_wp2_with fail
        refine C2.out.mono ?_
        rintro _ _ ⟨rfl, rfl⟩
        go_wp2_with fail
        clear kw
        go_roundg (r - (k + 1))
        case measure => have := HK.out; have := HLT.out; omega
        case rel => exact ⟨j + 1, by first | rfl | go_num, ⟨k + 1, by have := HK.out; omega, by have := HK.out; have := HLT.out; omega, HB2⟩, HFQ⟩
      | false =>
        rw [hq] at g1
        have HB2 : Hid (Ar.finI S r = false) := Lib.hid (Ar.finI_le S (k := k + 1) (by have := HLT.out; omega) (by rw [HNX.out, ← HJ.out, hq, Bool.and_false]))
        clear hq
        go_wp2_with fail
        refine C2.out.mono ?_
        rintro _ _ ⟨rfl, rfl⟩
        go_wp2_with fail
        go_ret
        exact ⟨ret_bool (HF.out.trans HB2.out).symm, HFQ.out⟩
    · have t1 : decide ((j : Int) < (m : Int) + (r : Int)) = false := decide_eq_false (by omega)
      have t1n : decide (j < m + r) = false := decide_eq_false (by omega)
      obtain rfl : k = r := by omega
      clear hlt hk hj
      go_wp2_with fail
      go_ret
      exact ⟨ret_bool (HF.out.trans HB.out).symm, HFQ.out⟩
set_option maxRecDepth 20000 in
set_option maxHeartbeats 4000000 in
theorem rdead_c (B rt : Nat) (v : Value) (S : Ar.Bd) (w : World) (h : RefAt w B rt v S) (hn : S.l.length < 4000000000000) (hm : S.maps ≤ 5000) (hr : S.reds ≤ 5000) :
    Calls Try.prog 26 #[.pointer (some ⟨rt, 0, none⟩)] w fun e w' => e = .returned (.bool (Ar.dead S)) ∧ Dr w w' := by
  have H := Lib.hid h
  have HN := Lib.hid hn
  obtain ⟨A0, cA, hv0⟩ := h.slice
  subst hv0
  have HBK := Lib.hid h.blk
  have HF : Hid (Ar.dead S = Ar.deadI S (S.maps + S.reds)) := Lib.hid rfl
  have HNX : Hid (∀ k, Ar.deadI S (k + 1) = (Ar.deadI S k || decide (S.limit ≤ (S.l.countP (Ar.isFull (k : Int)) : Int)))) := Lib.hid (Ar.deadI_succ S)
  obtain ⟨m, hmm⟩ : ∃ m, m = S.maps := ⟨_, rfl⟩
  obtain ⟨r, hrr⟩ : ∃ r, r = S.reds := ⟨_, rfl⟩
  obtain ⟨lm, hll⟩ : ∃ lm, lm = S.limit := ⟨_, rfl⟩
  rw [← hmm] at HBK HF hm
  rw [← hrr] at HBK HF hr
  rw [← hll] at HBK HNX
  have HM := Lib.hid (And.intro hm hr)
  clear h hn hm hr hmm hrr hll
  have e1 : IntKind.i64.wrap ((m : Int) + (r : Int)) = (m : Int) + (r : Int) := by have := HM.out; rw [IntKind.wrap_i64]; omega
  have e2 : wrap64 ((m : Int) + (r : Int)) = (m : Int) + (r : Int) := by have := HM.out; unfold wrap64; omega
  go_enter Try.func26, Try.ntmps26
  go_wp2_with fail
  go_loopg [3] (m + r) (fun g v5 wr => ∃ k : Nat, v5 = .int .i64 (k : Int) ∧ k + g = m + r ∧ Hid (Ar.deadI S k = false) ∧ Hid (Dr w wr))
  case atStart => exact ⟨0, rfl, by omega, Lib.hid rfl, Lib.hid (Dr.refl _)⟩
  case round =>
    obtain ⟨k, rfl, hk, HB, HFR⟩ := hrel
    have HK := Lib.hid hk
    have z0 : ∀ d, (wr.drewN d).cell? ⟨rt, 0, none⟩ = some (.int .i64 (m : Int)) := fun d => (HBK.out.fr HFR.out.fr (fun e => e)).cell 0
    have z1 : ∀ d, (wr.drewN d).cell? ⟨rt, 1, none⟩ = some (.int .i64 (r : Int)) := fun d => (HBK.out.fr HFR.out.fr (fun e => e)).cell 1
    go_upto_region 2 with (fail)
    go_quiet (fail)
    have HFQ := Lib.hid (HFR.out.more nq)
    clear z0 z1 HFR
    generalize wr.drewN nq = w3 at HFQ ⊢
    by_cases hlt : k < m + r
    · have t1 : decide ((k : Int) < (m : Int) + (r : Int)) = true := decide_eq_true (by omega)
      have t1n : decide (k < m + r) = true := decide_eq_true hlt
      have HLT := Lib.hid hlt
      have kw : k + 1 < 100000 := by have := HM.out; omega
      have HKW := Lib.hid kw
      clear hlt hk kw
      rw [t1]
      go_wp2_with fail
      go_loopg [4, 5] S.l.length (fun g nv iv wq => ∃ i : Nat, iv = .int .i64 (i : Int) ∧ i + g = S.l.length ∧ nv = .int .i64 (((S.l.take i).countP (Ar.isFull (k : Int)) : Nat) : Int) ∧ Hid (Dr w wq))
      case atStart => exact ⟨0, rfl, by omega, rfl, HFQ⟩
      case round =>
        obtain ⟨i, rfl, hi, rfl, HFR⟩ := hrel
        have HI := Lib.hid hi
        have HRR := Lib.hid (H.out.frNone HFR.out.fr)
        have z4 : wr.cell? ⟨rt, 4, none⟩ = some (.slice A0 S.l.length cA) := HRR.out.blk.cell 4
        have z2 : wr.cell? ⟨rt, 2, none⟩ = some (.int .i64 lm) := (HBK.out.fr HFR.out.fr (fun e => e)).cell 2
        by_cases hl2 : i < S.l.length
        · have s1 : decide ((i : Int) < (S.l.length : Int)) = true := decide_eq_true (by omega)
          have s1n : decide (i < S.l.length) = true := decide_eq_true hl2
          have HL2 := Lib.hid hl2
          obtain ⟨x, hx⟩ : ∃ x, S.l[i]? = some x := ⟨S.l[i], List.getElem?_eq_getElem _⟩
          obtain ⟨g, cap, hv, _, _, ⟨c0, c1, c2, c3, c4, c5⟩, _⟩ := HRR.out.at hx
          cases hv
          have ia : ((i : Int)).toNat = i := by omega
          have ip : (0 : Int) ≤ (i : Int) := by omega
          have iz : (i : Int) < (S.l.length : Int) := by omega
          have iw : i + 1 < 4000000000001 := by have := HN.out; omega
          have hcs := Ar.count_succ hx (Ar.isFull (k : Int))
          have hcl : (S.l.take i).countP (Ar.isFull (k : Int)) ≤ i := Nat.le_trans List.countP_le_length (by rw [List.length_take]; omega)
          generalize (S.l.take i).countP (Ar.isFull (k : Int)) = c at hcs hcl ⊢
          have cw : c + 1 < 4000000000001 := by omega
          have HCS := Lib.hid hcs
          clear hcs hcl hx hl2 hi
          by_cases hq : x.task = (k : Int)
          · have q1 : (x.task == (k : Int)) = true := by rw [hq]; simp
            by_cases hs : x.state = 3
            · have q2 : (x.state == 3) = true := by rw [hs]; rfl
              have HC2 : Hid ((S.l.take (i + 1)).countP (Ar.isFull (k : Int)) = c + 1) := Lib.hid (by rw [HCS.out, if_pos (by unfold Ar.isFull; rw [decide_eq_true hq, decide_eq_true hs]; rfl)])
              clear hq hs
              go_wp2_with fail
              clear iw cw
              go_roundg (S.l.length - (i + 1))
              case measure => have := HI.out; have := HL2.out; omega
              case rel => exact ⟨i + 1, by first | rfl | go_num, by have := HI.out; have := HL2.out; omega, by rw [HC2.out]; first | rfl | go_num, HFR⟩
            · have q2 : (x.state == 3) = false := beq_eq_false_iff_ne.2 hs
              have HC2 : Hid ((S.l.take (i + 1)).countP (Ar.isFull (k : Int)) = c) := Lib.hid (by rw [HCS.out, if_neg (by unfold Ar.isFull; rw [decide_eq_false hs, Bool.and_false]; exact Bool.false_ne_true)]; rfl)
              clear hq hs
              go_wp2_with fail
              clear iw cw
              go_roundg (S.l.length - (i + 1))
              case measure => have := HI.out; have := HL2.out; omega
              case rel => exact ⟨i + 1, by first | rfl | go_num, by have := HI.out; have := HL2.out; omega, by rw [HC2.out], HFR⟩
          · have q1 : (x.task == (k : Int)) = false := beq_eq_false_iff_ne.2 hq
            have HC2 : Hid ((S.l.take (i + 1)).countP (Ar.isFull (k : Int)) = c) := Lib.hid (by rw [HCS.out, if_neg (by unfold Ar.isFull; rw [decide_eq_false hq, Bool.false_and]; exact Bool.false_ne_true)]; rfl)
            clear hq
            go_wp2_with fail
            clear iw cw
            go_roundg (S.l.length - (i + 1))
            case measure => have := HI.out; have := HL2.out; omega
            case rel => exact ⟨i + 1, by first | rfl | go_num, by have := HI.out; have := HL2.out; omega, by rw [HC2.out], HFR⟩
        · have s1 : decide ((i : Int) < (S.l.length : Int)) = false := decide_eq_false (by omega)
          have s1n : decide (i < S.l.length) = false := decide_eq_false hl2
          have hnx := HNX.out k
          rw [List.take_of_length_le (by omega)]
          have hcl : S.l.countP (Ar.isFull (k : Int)) < 4000000000001 := Nat.lt_of_le_of_lt List.countP_le_length (by have := HN.out; omega)
          generalize S.l.countP (Ar.isFull (k : Int)) = c at hnx hcl ⊢
          have kw := HKW.out
          clear hl2 hi
          by_cases hd : lm ≤ (c : Int)
          · have d1 : decide (lm ≤ (c : Int)) = true := decide_eq_true hd
            rw [d1, Bool.or_true] at hnx
            have HB2 : Hid (Ar.deadI S (m + r) = true) := Lib.hid (Ar.deadI_le S (k := k + 1) (by have := HLT.out; omega) hnx)
            clear hd hnx hcl
            go_wp2_with fail
            go_ret
            exact ⟨ret_bool (HF.out.trans HB2.out).symm, HFR.out⟩
          · have d1 : decide (lm ≤ (c : Int)) = false := decide_eq_false hd
            rw [d1, Bool.or_false, HB.out] at hnx
            have HB2 := Lib.hid hnx
            clear hd hnx hcl
            go_wp2_with fail
            clear kw
            go_roundg (m + r - (k + 1))
            case measure => have := HK.out; have := HLT.out; omega
            case rel => exact ⟨k + 1, by first | rfl | go_num, by have := HK.out; have := HLT.out; omega, HB2, HFR⟩
    · have t1 : decide ((k : Int) < (m : Int) + (r : Int)) = false := decide_eq_false (by omega)
      have t1n : decide (k < m + r) = false := decide_eq_false hlt
      obtain rfl : k = m + r := by omega
      clear hlt hk
      go_wp2_with fail
      go_ret
      exact ⟨ret_bool (HF.out.trans HB.out).symm, HFQ.out⟩
end Go.Proofs.Ytkcloaoaldklhaa
