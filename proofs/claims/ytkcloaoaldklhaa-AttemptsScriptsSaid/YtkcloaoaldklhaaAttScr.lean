/- attempts: both boards in one world; the law's ints. (Under way.) -/
import Derived.Test.YtkcloaoaldklhaaAttRel
import Derived.Test.YtkcloaoaldklhaaArr
namespace Go.Proofs.Ytkcloaoaldklhaa
open Go.RowKit
set_option linter.unusedVariables false
set_option linter.unusedSimpArgs false
theorem BOk.mono {S : At.Bd} {N M : Nat} (h : BOk S N) (hm : N ≤ M) : BOk S M := ⟨h.len, h.maps, h.p1, h.p2, fun k hk => (h.tk k hk).mono hm, h.opn, h.dead⟩
theorem ready_len (S : At.Bd) (node now : Int) : (At.ready S node now).length ≤ S.tasks.length := by
  unfold At.ready
  split
  · exact Nat.zero_le _
  · split
    · exact At.idle_le _ _
    · exact At.slow_le _ _ _ _
/-- both boards, and the act's block, in one world -/
structure Sq (W w : World) (b g : Nat) (vs : List Value) (S : At.Bd) (k rt : Nat) (v : Value) (R : Ar.Bd) (ga : Nat) (cs : List Value) : Prop where
  bd : BoardAt w b g vs S
  ok : BOk S k
  rf : RefAt w W.heap.size rt v R
  rel : ARel S R
  ll : R.l.length ≤ k
  mr : R.maps ≤ 5000 ∧ R.reds ≤ 5000
  pat : 1 ≤ R.patience ∧ R.patience ≤ 1099511627776
  act : Blk w ga cs 28
  oa : Off w b g vs ga
  ort : Off w b g vs rt
  ov : ∀ q, v.ownBlock = some q → Off w b g vs q
  ne : ga ≠ rt
  nv : ∀ q, v.ownBlock = some q → q ≠ ga
  lo : Lo W.heap.size b g vs
  below : Below W.heap.size W w
structure Sp (W w : World) (b g : Nat) (vs : List Value) (S : At.Bd) (k rt : Nat) (v : Value) (R : Ar.Bd) : Prop where
  bd : BoardAt w b g vs S
  ok : BOk S k
  rf : RefAt w W.heap.size rt v R
  rel : ARel S R
  ll : R.l.length ≤ k
  mr : R.maps ≤ 5000 ∧ R.reds ≤ 5000
  pat : 1 ≤ R.patience ∧ R.patience ≤ 1099511627776
  ort : Off w b g vs rt
  ov : ∀ q, v.ownBlock = some q → Off w b g vs q
  lo : Lo W.heap.size b g vs
  below : Below W.heap.size W w
theorem Off.fresh {w w' : World} {b g : Nat} {vs : List Value} {S : At.Bd} (h : BoardAt w b g vs S) {q : Nat} (h1 : w.heap.size ≤ q) (h2 : q < w'.heap.size) : Off w' b g vs q :=
  ⟨h2, by have := h.blk.lt; omega, by have := h.tsk.lt; omega, fun v hv e => by
    obtain ⟨i, hi⟩ := List.mem_iff_getElem?.1 hv
    have hil := (List.getElem?_eq_some_iff.1 hi).1
    have := ((h.own i v _ hi (List.getElem?_eq_getElem (by rw [← h.len]; exact hil))).lt _ e).2
    omega⟩
section
variable {W w w' w'' : World} {b g : Nat} {vs : List Value} {S S' : At.Bd} {k k' rt : Nat} {v : Value} {R R' : Ar.Bd} {ga : Nat} {cs : List Value}
theorem Sp.act (h : Sp W w b g vs S k rt v R) (cs : List Value) : Sq W (w.alloc (.cells cs.toArray 28)) b g vs S k rt v R w.heap.size cs := by
  have hf : Fr w (w.alloc (.cells cs.toArray 28)) (fun _ => False) := (Fr.refl w _).alloc _
  exact ⟨h.bd.frNone hf, h.ok, h.rf.frNone hf, h.rel, h.ll, h.mr, h.pat, Blk.new w cs 28, Off.new h.bd (by simp), h.ort.grow hf.size, fun q e => (h.ov q e).grow hf.size, by have := h.rf.blk.lt; omega, fun q e => by have := (h.ov q e).lt; omega, h.lo, h.below.trans (frNone_below hf h.below.size)⟩
theorem Sq.forget (h : Sq W w b g vs S k rt v R ga cs) : Sp W w b g vs S k rt v R := ⟨h.bd, h.ok, h.rf, h.rel, h.ll, h.mr, h.pat, h.ort, h.ov, h.lo, h.below⟩
theorem Sq.mono (h : Sq W w b g vs S k rt v R ga cs) (hk : k ≤ k') : Sq W w b g vs S k' rt v R ga cs := ⟨h.bd, h.ok.mono hk, h.rf, h.rel, Nat.le_trans h.ll hk, h.mr, h.pat, h.act, h.oa, h.ort, h.ov, h.ne, h.nv, h.lo, h.below⟩
theorem Sq.fr (h : Sq W w b g vs S k rt v R ga cs) (hf : Fr w w' (fun _ => False)) : Sq W w' b g vs S k rt v R ga cs :=
  ⟨h.bd.frNone hf, h.ok, h.rf.frNone hf, h.rel, h.ll, h.mr, h.pat, h.act.fr hf (fun e => e), h.oa.grow hf.size, h.ort.grow hf.size, fun q e => (h.ov q e).grow hf.size, h.ne, h.nv, h.lo, h.below.trans (frNone_below hf h.below.size)⟩
theorem Sq.mid (h : Sq W w b g vs S k rt v R ga cs) (hto : BoardTo w b g vs S' w') : RefAt w' W.heap.size rt v R ∧ Blk w' ga cs 28 := by
  obtain ⟨vs', h1, h2⟩ := hto
  exact ⟨h.rf.fr h2.fr h.ort.not fun q e => (h.ov q e).not, h.oa.keep h2 h.act⟩
theorem Sq.next (h : Sq W w b g vs S k rt v R ga cs) (hto : BoardTo w b g vs S' w') (hre : RefTo w' W.heap.size rt v R' w'') (ok : BOk S' k') (rel : ARel S' R') (ll : R'.l.length ≤ k') (mr : R'.maps = R.maps ∧ R'.reds = R.reds ∧ R'.patience = R.patience) :
    ∃ vs' v', Sq W w'' b g vs' S' k' rt v' R' ga cs := by
  obtain ⟨h3, h4⟩ := h.mid hto
  obtain ⟨vs', h1, h2⟩ := hto
  obtain ⟨v', k1, k2⟩ := hre
  have o1 := h.ort.step h2
  have o2 : ∀ q, v.ownBlock = some q → Off w' b g vs' q := fun q e => (h.ov q e).step h2
  have hb1 := h.lo.below h2 h.below
  refine ⟨vs', v', h1.fr k2.fr ?_, ok, k1, rel, ll, by rw [mr.1, mr.2.1]; exact h.mr, by rw [mr.2.2]; exact h.pat, h4.fr k2.fr ?_, (h.oa.step h2).grow k2.fr.size, o1.grow k2.fr.size, fun q e => ?_, h.ne, fun q e => ?_, h.lo.step h2 h.below.size, hb1.trans (k2.fr.below (fun q _ e => ?_) hb1.size)⟩
  · rintro q hq (e | e)
    · exact o1.not (e ▸ hq)
    · exact (o2 q e).not hq
  · rintro (e | e)
    · exact h.ne e
    · exact h.nv ga e rfl
  · rcases k2.lies q e with e2 | e2
    · exact (o2 q e2).grow k2.fr.size
    · exact Off.fresh h1 e2 (k1.row.own.lt q e).2
  · rcases k2.lies q e with e2 | e2
    · exact h.nv q e2
    · have := h4.lt; omega
  · rcases e with rfl | e
    · exact h3.lo
    · exact (h3.row.own.lt q e).1
end
set_option maxHeartbeats 4000000 in
theorem ints_c (ga n c gb cb : Nat) (l : List Int) (w : World) (hl : l.length = n) (hn : n ≤ 35184372088832) (ha : ∀ (i : Nat) x, l[i]? = some x → w.cell? ⟨ga, i, none⟩ = some (.int .i64 x)) (hb : ∀ (i : Nat) x, l[i]? = some x → w.cell? ⟨gb, i, none⟩ = some (.int .i64 x)) (pa pb : Option Addr) (hpa : 0 < n → pa = some ⟨ga, 0, none⟩) (hpb : 0 < n → pb = some ⟨gb, 0, none⟩) :
    Calls Try.prog 23 #[.slice pa n c, .slice pb n cb] w fun e w' => e = .returned (.bool true) ∧ Fr w w' (fun _ => False) := by
  have HL := Lib.hid hl
  have HNB := Lib.hid hn
  have HA := Lib.hid ha
  have HB := Lib.hid hb
  have HPA := Lib.hid hpa
  have HPB := Lib.hid hpb
  have hbi : ((n : Int) != (n : Int)) = false := by simp
  clear hl hn ha hb hpa hpb
  go_enter Try.func23, Try.ntmps23
  go_wp2_with fail
  go_loopg [5] n (fun g v5 wr => ∃ k : Nat, v5 = .int .i64 (k : Int) ∧ k + g = n ∧ Hid (Fr w wr (fun _ => False)) ∧ Hid (∀ a, (∃ v, w.cell? a = some v) → wr.cell? a = w.cell? a))
  case atStart => exact ⟨0, rfl, by omega, Lib.hid (Fr.refl _ _), Lib.hid (fun _ _ => rfl)⟩
  case round =>
    obtain ⟨k, rfl, hk, HF, HCC⟩ := hrel
    have HK := Lib.hid hk
    by_cases hlt : k < n
    · have t1 : decide ((k : Int) < (n : Int)) = true := decide_eq_true (by omega)
      have t1n : decide (k < n) = true := decide_eq_true hlt
      have HLT := Lib.hid hlt
      obtain ⟨x, hx⟩ : ∃ x, l[k]? = some x := ⟨l[k]'(by rw [HL.out]; exact hlt), List.getElem?_eq_getElem _⟩
      obtain rfl := HPA.out (by omega)
      obtain rfl := HPB.out (by omega)
      have d1 : ∀ d, (wr.drewN d).cell? ⟨ga, k, none⟩ = some (.int .i64 x) := fun d => (HCC.out _ ⟨_, HA.out k x hx⟩).trans (HA.out k x hx)
      have d2 : ∀ d, (wr.drewN d).cell? ⟨gb, k, none⟩ = some (.int .i64 x) := fun d => (HCC.out _ ⟨_, HB.out k x hx⟩).trans (HB.out k x hx)
      have ka : ((k : Int)).toNat = k := by omega
      have kp : (0 : Int) ≤ (k : Int) := by omega
      have kz : (k : Int) < (n : Int) := by omega
      have kw : k + 1 < 35184372088833 := by have := HNB.out; omega
      have hxx : (x != x) = false := by simp
      clear hx hlt hk
      go_upto_region 6 with (fail)
      go_quiet (fail)
      have HF3 := Lib.hid (HF.out.drewN nq)
      have HC3 : Hid (∀ a, (∃ v, w.cell? a = some v) → (wr.drewN nq).cell? a = w.cell? a) := Lib.hid HCC.out
      clear d1 d2 hxx HF HCC
      generalize wr.drewN nq = w3 at HF3 HC3 ⊢
      go_wp2_with fail
      clear kw
      go_roundg (n - (k + 1))
      case measure => have := HK.out; have := HLT.out; omega
      case rel => exact ⟨k + 1, by first | rfl | go_num, by have := HK.out; have := HLT.out; omega, HF3, HC3⟩
    · have t1 : decide ((k : Int) < (n : Int)) = false := decide_eq_false (by omega)
      have t1n : decide (k < n) = false := decide_eq_false hlt
      clear hlt hk
      go_wp2_with fail
      go_ret
      exact ⟨rfl, HF.out⟩
theorem rows_at {w : World} {B n cap : Nat} {e : TypeId} {q : Option Addr} {xs : List Value} (h : w.ownsRow B e 1 (.slice q n cap) n xs) :
    ∃ g, (0 < n → q = some ⟨g, 0, none⟩) ∧ (0 < n → g < w.heap.size) ∧ ∀ i, i < n → w.cell? ⟨g, i, none⟩ = xs[i]? := by
  by_cases h0 : 0 < n
  · obtain ⟨g, c, hq, _, hl, hC⟩ := own_some h h0
    cases hq
    exact ⟨g, fun _ => rfl, fun _ => hl, fun i hi => h.cellAt i (by omega)⟩
  · exact ⟨0, fun h => absurd h h0, fun h => absurd h h0, fun i hi => by omega⟩
/-- of a large job no more than 4096 tasks may begin at once -/
theorem ready_new (m r : Int) : (At.ready (At.new m r 1 1) 0 0).length ≤ 4096 := by
  have ho := new_ok m r 1 1 0
  have hl : (At.new m r 1 1).tasks.length = (At.clamp m 0 4096).toNat + (At.clamp r 0 4096).toNat := by simp [At.new]
  have hm : (At.new m r 1 1).maps = (At.clamp m 0 4096).toNat := rfl
  have hmb : (At.clamp m 0 4096).toNat ≤ 4096 := by unfold At.clamp; omega
  have hrb : (At.clamp r 0 4096).toNat ≤ 4096 := by unfold At.clamp; omega
  have hop : (At.new m r 1 1).opn = At.clamp m 0 4096 := rfl
  have hmem : ∀ x ∈ At.ready (At.new m r 1 1) 0 0, ∃ k : Nat, x = (k : Int) ∧ k < (At.new m r 1 1).tasks.length ∧ (k < (At.new m r 1 1).maps ∨ (At.new m r 1 1).opn = 0) := fun x hx => by
    obtain ⟨k, t, rfl, ht, hmay⟩ := ready_mem hx
    exact ⟨k, rfl, (List.getElem?_eq_some_iff.1 ht).1, (may_iff.1 hmay).2⟩
  have hbound : ∀ (p : Nat → Bool) (n q : Nat), (∀ i, i < n → p i = true → i < q) → ((List.range n).filter p).length ≤ q := fun p n q h => by
    have hsub : ((List.range n).filter p).Nodup := List.nodup_range.filter _
    have hss : ((List.range n).filter p) ⊆ List.range q := fun x hx => by
      obtain ⟨h1, h2⟩ := List.mem_filter.1 hx
      exact List.mem_range.2 (h x (List.mem_range.1 h1) h2)
    have := hsub.length_le_of_subset hss
    simpa using this
  by_cases h0 : (At.clamp m 0 4096).toNat = 0
  · refine Nat.le_trans (ready_len _ _ _) ?_
    omega
  · have hne : (At.new m r 1 1).opn ≠ 0 := by rw [hop]; omega
    unfold At.ready
    split
    · exact Nat.zero_le _
    · split
      · unfold At.idle
        rw [List.length_map]
        refine hbound _ _ _ fun i hi hp => ?_
        unfold At.isIdle at hp
        rw [List.getElem?_eq_getElem hi] at hp
        dsimp only at hp
        rw [Bool.and_eq_true] at hp
        rcases (may_iff.1 hp.1).2 with h | h
        · omega
        · exact absurd h hne
      · unfold At.slow
        rw [List.length_map]
        refine hbound _ _ _ fun i hi hp => ?_
        unfold At.isSlow at hp
        rw [List.getElem?_eq_getElem hi] at hp
        dsimp only at hp
        rw [Bool.and_eq_true] at hp
        rcases (may_iff.1 hp.1).2 with h | h
        · omega
        · exact absurd h hne
/-- what a call leaves of the reference's form -/
structure RSame (R R' : Ar.Bd) (m : Nat) : Prop where
  len : R'.l.length ≤ R.l.length + m
  mr : R'.maps = R.maps ∧ R'.reds = R.reds ∧ R'.patience = R.patience
theorem rstart_same (R : Ar.Bd) (t node now : Int) : RSame R (Ar.start R t node now).2 1 := by
  unfold Ar.start
  split
  · exact ⟨by simp, rfl, rfl, rfl⟩
  · exact ⟨Nat.le_succ _, rfl, rfl, rfl⟩
theorem rreport_same (R : Ar.Bd) (t n how : Int) : RSame R (Ar.report R t n how).2 1 := by
  unfold Ar.report
  repeat' split
  all_goals first | exact ⟨Nat.le_succ _, rfl, rfl, rfl⟩ | exact ⟨by simp, rfl, rfl, rfl⟩
theorem rlost_same (R : Ar.Bd) (t n : Int) : RSame R (Ar.lost R t n).2 1 := by
  unfold Ar.lost
  repeat' split
  all_goals first | exact ⟨Nat.le_succ _, rfl, rfl, rfl⟩ | exact ⟨by simp, rfl, rfl, rfl⟩
theorem rgone_same (R : Ar.Bd) (node : Int) : RSame R (Ar.gone R node) 1 := ⟨by simp [Ar.gone], rfl, rfl, rfl⟩
end Go.Proofs.Ytkcloaoaldklhaa
