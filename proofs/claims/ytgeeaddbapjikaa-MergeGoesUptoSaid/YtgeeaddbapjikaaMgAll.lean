/- merge.All's closure: what it gives. -/
import Derived.Test.YtgeeaddbapjikaaPop
import Derived.Test.YtgeeaddbapjikaaMgP
import Derived.RangeFuncNested
import Derived.RangeFuncBound
import Derived.RangeFuncCalls
import Derived.RangeFuncLeaves
import Derived.Shelf.Abstract
import Derived.Shelf.RegionOpen
import Derived.WalkKit
import Derived.OwnWalkIn
import Derived.TacticsInMore
import Derived.LoopNIn
import Derived.LoopIn
namespace Go.Proofs.Ytgeeaddbapjikaa
open Go.RowKit Go.Shelf Go.Proofs.Ytgeeaddbapjikaa.St
attribute [local go_sem] Oper.semAt_some
set_option linter.unusedVariables false
set_option linter.unusedSimpArgs false
namespace Mg
/-- the iterator's own blocks: heaps and cursors -/
def Mine (W : World) (j : Nat) : Prop := ∃ cur t r, W.heap[j]? = some (.cells cur t r) ∧ (t = 60 ∨ t = 63)
/-- a step of the iterator's: of what lay, only its own may turn -/
def StepI (base : Nat) (W W' : World) : Prop := Fr W W' (fun j => base ≤ j ∧ Mine W j)
def Abides (base : Nat) (J : List Pr → World → Prop) : Prop := ∀ s W W', J s W → StepI base W W' → J s W'
/-- what a round keeps: all below base, and the iterator's own -/
def Keeps (base : Nat) (W W' : World) : Prop := Fr W W' (fun j => base ≤ j ∧ ¬ Mine W j)
structure RunSl (w : World) (base : Nat) (A : Option Addr) (N : Nat) (R : Nat → Rn) : Prop where
  el : ∀ i, i < N → ∃ g off, A = some ⟨g, off, none⟩ ∧ g < base ∧ (((R i).ps.length = 0 ∧ ∃ B c, w.cell? ⟨g, off + i, none⟩ = some (.slice B 0 c)) ∨ (0 < (R i).ps.length ∧ w.cell? ⟨g, off + i, none⟩ = some (.slice (some ⟨(R i).b, (R i).o, none⟩) (R i).ps.length (R i).cap)))
def pcells (x : Pr) : Value := .agg #[.string x.1, .string x.2]
theorem RunSl.below {w w' : World} {base : Nat} {A : Option Addr} {N : Nat} {R : Nat → Rn} (h : RunSl w base A N R) (hb : Below base w w') : RunSl w' base A N R := by
  refine ⟨fun i hi => ?_⟩
  obtain ⟨g, off, hA, hg, h1⟩ := h.el i hi
  have hc : w'.cell? ⟨g, off + i, none⟩ = w.cell? ⟨g, off + i, none⟩ := World.cell?_of_block (a := ⟨g, off + i, none⟩) (hb.block g hg)
  exact ⟨g, off, hA, hg, by rw [hc]; exact h1⟩
theorem Mine.of_blk {w : World} {g : Nat} {cs : List Value} {t : TypeId} (h : Blk w g cs t) (ht : t = 60 ∨ t = 63) : Mine w g := ⟨_, t, _, h, ht⟩
theorem HeapAt.mine {w : World} {base hb : Nat} {R : Nat → Rn} {v : Value} {L : List Cu} (h : HeapAt w base hb R v L) : Mine w hb ∧ ∀ k, v.ownBlock = some k → Mine w k := by
  refine ⟨.of_blk h.blk (.inr rfl), fun k e => ?_⟩
  rcases h.recs.own.2 with ⟨rfl, _⟩ | ⟨g, cap, cur, rfl, _, hg, _⟩
  · cases e
  · cases e; exact ⟨cur, _, _, hg, .inl rfl⟩
theorem HeapAt.keeps {w w' : World} {base hb : Nat} {R : Nat → Rn} {v : Value} {L : List Cu} (h : HeapAt w base hb R v L) (hk : Keeps base w w') : HeapAt w' base hb R v L :=
  h.fr hk (fun e => e.2 h.mine.1) (fun k e e' => e'.2 (h.mine.2 k e))
theorem StepI.field {w w' : World} {base hb : Nat} {R : Nat → Rn} {v v' : Value} {L : List Cu} (h : HeapAt w base hb R v L) (hf : FieldR w hb v w' v') : StepI base w w' :=
  hf.fr.mono fun j _ e => by
    rcases e with rfl | e
    · exact ⟨h.base, h.mine.1⟩
    · exact ⟨(h.lt.2 j e).2, h.mine.2 j e⟩
theorem StepI.new {w w' : World} {base : Nat} (h : Below w.heap.size w w') : StepI base w w' := ⟨h.os, h.tape, h.output, h.size, fun j hj _ => h.block j hj⟩
theorem StepI.below {w w' : World} {base : Nat} (h : StepI base w w') (hb : base ≤ w.heap.size) : Below base w w' := Fr.below h (fun j _ e => e.1) hb
theorem Keeps.below {w w' : World} {base : Nat} (h : Keeps base w w') (hb : base ≤ w.heap.size) : Below base w w' := Fr.below h (fun j _ e => e.1) hb
structure AllI (base hb : Nat) (A : Option Addr) (N : Nat) (R : Nat → Rn) (J : List Pr → World → Prop) (w : World) (v : Value) (L : List Cu) (pre : List Pr) : Prop where
  at_ : HeapAt w base hb R v L
  heap : Hp.HeapE (lt R) L
  j : J pre w
  sl : RunSl w base A N R
  runs : RunsAt w base R
  size : base ≤ w.heap.size
theorem AllI.push {base hb : Nat} {A : Option Addr} {N : Nat} {R : Nat → Rn} {J : List Pr → World → Prop} {w w' : World} {v v' : Value} {L L' : List Cu} {pre : List Pr} {c : Cu} (hJ : Abides base J) (h : AllI base hb A N R J w v L pre)
    (hp : PushTo w base hb R v L c w' v' L') : AllI base hb A N R J w' v' L' pre :=
  have hs := StepI.field h.at_ hp.fr
  have hb := hs.below h.size
  ⟨hp.at_, hp.heap, hJ _ _ _ h.j hs, h.sl.below hb, h.runs.below hb, Nat.le_trans h.size hb.size⟩
def RelA (base hb : Nat) (A : Option Addr) (N : Nat) (R : Nat → Rn) (J : List Pr → World → Prop) (o : List Pr) (m : Nat) (w : World) : Prop :=
  ∃ (p : Nat → Nat) (v : Value) (L : List Cu) (pre : List Pr), Hid (AllI base hb A N R J w v L pre) ∧ Hid (L.Perm (curs R N p)) ∧ Hid (pre ++ out R N (todo R p N) p = o) ∧ m = todo R p N
theorem AllI.pop {base hb : Nat} {A : Option Addr} {N : Nat} {R : Nat → Rn} {J : List Pr → World → Prop} {w w' : World} {v v' : Value} {L L' : List Cu} {pre : List Pr} {c : Cu} (hJ : Abides base J) (h : AllI base hb A N R J w v L pre)
    (hp : PopTo w base hb R v L c w' v' L') : AllI base hb A N R J w' v' L' pre :=
  have hs := StepI.field h.at_ hp.fr
  have hb := hs.below h.size
  ⟨hp.at_, hp.heap, hJ _ _ _ h.j hs, h.sl.below hb, h.runs.below hb, Nat.le_trans h.size hb.size⟩
theorem AllI.new {base hb : Nat} {A : Option Addr} {N : Nat} {R : Nat → Rn} {J : List Pr → World → Prop} {w w' : World} {v : Value} {L : List Cu} {pre : List Pr} (hJ : Abides base J) (h : AllI base hb A N R J w v L pre)
    (hB : Below w.heap.size w w') : AllI base hb A N R J w' v L pre :=
  ⟨h.at_.below hB, h.heap, hJ _ _ _ h.j (StepI.new hB), h.sl.below (hB.mono h.size), h.runs.below (hB.mono h.size), Nat.le_trans h.size hB.size⟩
theorem AllI.round {base hb : Nat} {A : Option Addr} {N : Nat} {R : Nat → Rn} {J : List Pr → World → Prop} {w w' : World} {v : Value} {L : List Cu} {pre pre' : List Pr} (h : AllI base hb A N R J w v L pre)
    (hj : J pre' w') (hk : Keeps base w w') : AllI base hb A N R J w' v L pre' :=
  have hb := hk.below h.size
  ⟨h.at_.keeps hk, h.heap, hj, h.sl.below hb, h.runs.below hb, Nat.le_trans h.size hb.size⟩
theorem AllI.cur {base hb : Nat} {A : Option Addr} {N : Nat} {R : Nat → Rn} {J : List Pr → World → Prop} {w : World} {v : Value} {L : List Cu} {pre : List Pr} (hJ : Abides base J) (h : AllI base hb A N R J w v L pre) {cb : Nat} {cs : List Value} (hx : Blk w cb cs 60)
    (h1 : hb ≠ cb) (h2 : ∀ j, v.ownBlock = some j → j ≠ cb) (h3 : base ≤ cb) (k : Nat) (u : Value) : AllI base hb A N R J (w.setCell ⟨cb, k, none⟩ u) v L pre := by
  have hf : Fr w (w.setCell ⟨cb, k, none⟩ u) (fun j => j = cb) := (Fr.refl w _).setCell _ _ fun _ => rfl
  have hs : StepI base w (w.setCell ⟨cb, k, none⟩ u) := hf.mono fun j _ e => by subst e; exact ⟨h3, .of_blk hx (.inl rfl)⟩
  have hb := hs.below h.size
  exact ⟨h.at_.fr hf h1 h2, h.heap, hJ _ _ _ h.j hs, h.sl.below hb, h.runs.below hb, Nat.le_trans h.size hb.size⟩
theorem left_next (R : Nat → Rn) (r : Cu) {w : World} {base : Nat} (hR : RunsAt w base R) (h : okC R r) : ∃ k cp b o : Nat, left R r = .slice (some ⟨b, o, none⟩) (k + 1) (cp + 1) ∧ left R (r.1, r.2 + 1) = .slice (some ⟨b, o + 2, none⟩) k cp ∧ (R r.1).ps.length = r.2 + 1 + k ∧ k ≤ cp := by
  unfold okC at h
  have hc := hR.cap r.1
  refine ⟨(R r.1).ps.length - r.2 - 1, (R r.1).cap - r.2 - 1, (R r.1).b, (R r.1).o + r.2 * 2, ?_, ?_, by omega, by omega⟩
  · unfold left
    rw [show (R r.1).ps.length - r.2 - 1 + 1 = (R r.1).ps.length - r.2 by omega, show (R r.1).cap - r.2 - 1 + 1 = (R r.1).cap - r.2 by omega]
  · unfold left
    simp only
    rw [show (R r.1).ps.length - (r.2 + 1) = (R r.1).ps.length - r.2 - 1 by omega, show (R r.1).cap - (r.2 + 1) = (R r.1).cap - r.2 - 1 by omega, show (R r.1).o + (r.2 + 1) * 2 = (R r.1).o + r.2 * 2 + 2 by omega]
theorem left_at {R : Nat → Rn} {r : Cu} {k c b o : Nat} (h : left R r = .slice (some ⟨b, o, none⟩) k c) : b = (R r.1).b ∧ o = (R r.1).o + r.2 * 2 := by
  unfold left at h
  injection h with h1
  injection h1 with h2
  injection h2 with h3 h4
  exact ⟨h3.symm, h4.symm⟩
theorem least_of {Q : Nat → Prop} : ∀ n, Q n → ∃ m, Q m ∧ ∀ k, Q k → m ≤ k := by
  intro n
  induction n using Nat.strongRecOn with
  | ind n ih =>
    intro h
    by_cases h2 : ∃ k, k < n ∧ Q k
    · obtain ⟨k, hk, hq⟩ := h2
      exact ih k hk hq
    · exact ⟨n, h, fun k hk => by
        by_cases h3 : k < n
        · exact absurd ⟨k, h3, hk⟩ h2
        · omega⟩
theorem least_ex {Q : Nat → World → Prop} {w : World} (h : ∃ m, Q m w) : ∃ m, Q m w ∧ ∀ k, Q k w → m ≤ k := by
  obtain ⟨n, hn⟩ := h
  exact least_of n hn
open Classical in
/-- the least number for which it holds -/
noncomputable def muOf (Q : Nat → World → Prop) (w : World) : Nat := if h : ∃ m, Q m w then Classical.choose (least_ex h) else 0
theorem muOf_spec {Q : Nat → World → Prop} {w : World} (h : ∃ m, Q m w) : ∃ m, muOf Q w = m ∧ Q m w := by
  refine ⟨_, rfl, ?_⟩
  unfold muOf
  rw [dif_pos h]
  exact (Classical.choose_spec (least_ex h)).1
theorem muOf_le {Q : Nat → World → Prop} {w : World} {m : Nat} (h : Q m w) : muOf Q w ≤ m := by
  unfold muOf
  rw [dif_pos ⟨m, h⟩]
  exact (Classical.choose_spec (least_ex ⟨m, h⟩)).2 m h
theorem ms_lt' {i N : Nat} (h : i < N) : N - natOf (.int .i64 ((i : Int) + 1)) < N - natOf (.int .i64 (i : Int)) := by simp only [natOf]; omega
theorem left0 (R : Nat → Rn) (i : Nat) : left R (i, 0) = .slice (some ⟨(R i).b, (R i).o, none⟩) (R i).ps.length (R i).cap := by simp [left]
theorem act0 {R : Nat → Rn} {i : Nat} (h : 0 < (R i).ps.length) : act R (fun _ => 0) i := h
theorem act0n {R : Nat → Rn} {i : Nat} (h : (R i).ps.length = 0) : ¬ act R (fun _ => 0) i := by unfold act; omega
theorem lt_i64 {i N : Nat} (h : i ≤ N) (h2 : N ≤ 1048576) : wrap64 ((i : Int) + 1) = ((i + 1 : Nat) : Int) ∧ IntKind.i64.wrap ((i : Int) + 1) = ((i + 1 : Nat) : Int) := by
  refine ⟨by unfold wrap64; omega, by rw [IntKind.wrap_i64]; omega⟩
theorem ms_lt {i N : Nat} (h : i < N) : N - (((i + 1 : Nat) : Int)).toNat < N - ((i : Int)).toNat := by omega
theorem curs_len (R : Nat → Rn) (N : Nat) (p : Nat → Nat) : (curs R N p).length ≤ N := by
  unfold curs
  rw [List.length_map]
  exact Nat.le_trans (List.length_filter_le _ _) (by simp)
set_option maxRecDepth 20000 in
set_option maxHeartbeats 8000000 in
theorem all1_c (n : Nat) (l Bn base : Nat) (A : Option Addr) (N Nc : Nat) (R : Nat → Rn) (J Jx : List Pr → World → Prop) (hJ : Abides base J) (hJx : Abides base Jx) (hN : N ≤ 1048576) (W : World)
    (hY : ∀ pre x W1, J pre W1 → pre.length < (out R N (todo R (fun _ => 0) N) fun _ => 0).length → YieldAt Fence.wide (n - 1) Try.prog l #[pcells x] W1 fun e W' =>
      (e = .returned (.bool true) ∧ J (pre ++ [x]) W' ∧ Keeps base W1 W') ∨ (e = .returned (.bool false) ∧ Jx (pre ++ [x]) W'))
    (hBn : W.cell? ⟨Bn, 0, none⟩ = some (.slice A N Nc)) (hS : RunSl W base A N R) (hR : RunsAt W base R) (hb : base ≤ W.heap.size) (h0 : J [] W) :
    CallsIn Fence.wide n Try.prog 20 #[.func (.yield l) #[] #[], .pointer (some ⟨Bn, 0, none⟩)] W fun e W' => (∃ v, e = .returned v) ∧
      ((∃ ys, ys = (out R N (todo R (fun _ => 0) N) fun _ => 0) ∧ J ys W') ∨ (∃ pre, pre <+: (out R N (todo R (fun _ => 0) N) fun _ => 0) ∧ Jx pre W')) := by
  have HY := Lib.hid hY
  have HS := Lib.hid hS
  have HR := Lib.hid hR
  have HB := Lib.hid hb
  have H0 := Lib.hid h0
  have HJ := Lib.hid hJ
  have HJX := Lib.hid hJx
  clear hY hS hR hb h0 hJ hJx
  refine callsIn_of_wp Try.func20 rfl trivial ?_ rfl
  simp only [Try.ntmps20, List.size_toArray, List.length_cons, List.length_nil, Nat.reduceAdd, Nat.reduceSub, Array.replicate_succ, Array.replicate_zero, List.push_toArray, List.append_toArray, List.nil_append, List.cons_append]
  have c0 : (W.alloc (.cells #[.slice none 0 0, .func (.func 21) #[] #[]] 63)).cell? ⟨Bn, 0, none⟩ = some (.slice A N Nc) := Lib.cell?_alloc_some _ hBn
  have hBW : Below W.heap.size W (W.alloc (.cells #[.slice none 0 0, .func (.func 21) #[] #[]] 63)) := (Below.refl _ W).alloc (Nat.le_refl _) _
  have HA1 : Hid (HeapAt (W.alloc (.cells #[.slice none 0 0, .func (.func 21) #[] #[]] 63)) base W.heap.size R (.slice none 0 0) []) := Lib.hid ⟨Blk.new W _ _, Recs.nil _ _ _ _, HB.out, fun c h => by cases h⟩
  have HS1 := Lib.hid (HS.out.below (hBW.mono HB.out))
  have HR1 := Lib.hid (HR.out.below (hBW.mono HB.out))
  have HJ1 := Lib.hid (HJ.out _ _ _ H0.out (StepI.new hBW))
  have HB1 := Lib.hid (Nat.le_trans HB.out hBW.size)
  clear hBn hBW HS HR H0
  gi_wp2
  generalize W.alloc (.cells #[.slice none 0 0, .func (.func 21) #[] #[]] 63) = W1 at *
  generalize W.heap.size = hb at *
  clear c0
  have HI1 : Hid (AllI base hb A N R J W1 (.slice none 0 0) [] []) := Lib.hid ⟨HA1.out, fun j x y _ h => by (simp at h), HJ1.out, HS1.out, HR1.out, HB1.out⟩
  clear HA1 HS1 HR1 HJ1 HB1
  gi_loopw [4, 5, 11] (fun p4 p5 p11 wr => ∃ (i : Nat) (v : Value) (L : List Cu), p11 = .int .i64 i ∧ i ≤ N ∧ Hid (AllI base hb A N R J wr v L []) ∧ Hid (L.Perm (curs R i fun _ => 0)))
    (fun p4 p5 p11 wr => N - natOf p11)
  case atStart => exact ⟨0, _, [], rfl, Nat.zero_le _, HI1, Lib.hid (List.Perm.refl _)⟩
  case round =>
    obtain ⟨i, v, L, rfl, hi, HI, HP⟩ := hrel
    by_cases h : i < N
    · obtain ⟨g, off, rfl, hg, ⟨hl, B, c, hc⟩ | ⟨hl, hc⟩⟩ := HI.out.sl.el i h
      · have HNX := Lib.hid (lt_i64 hi hN)
        have HPN : Hid (L.Perm (curs R (i + 1) fun _ => 0)) := Lib.hid (by rw [curs_succ, if_neg (act0n hl), List.append_nil]; exact HP.out)
        have HL := Lib.hid hl
        clear hl hg
        gi_wp2
        exact ⟨⟨i + 1, v, L, val_int (by omega), h, HI, HPN⟩, ms_lt' h⟩
      · have HNX := Lib.hid (lt_i64 hi hN)
        have HL := Lib.hid hl
        have HC := Lib.hid (push_c wr base hb R v L (i, 0) HI.out.at_ HI.out.heap HI.out.runs hl (by have h1 := HP.out.length_eq; have h2 := curs_len R i (fun _ => 0); omega) HI.out.size)
        rw [left0] at HC
        have hl2 : (0 : Int) < ((R i).ps.length : Int) := Int.ofNat_lt.2 hl
        have hl3 : decide (0 < (R i).ps.length) = true := decide_eq_true hl
        clear hl hg
        have HPN : Hid (∀ L' : List Cu, L'.Perm ((i, 0) :: L) → L'.Perm (curs R (i + 1) fun _ => 0)) := Lib.hid fun L' h' => by
          rw [curs_succ, if_pos (act0 HL.out)]
          exact h'.trans ((HP.out.cons (i, 0)).trans (List.perm_append_singleton _ _).symm)
        gi_wp2_with fail
        refine ⟨trivial, fun h => by (cases h), (callsIn_wide.2 HC.out).mono ?_⟩
        rintro e w' ⟨rfl, v', L', hp⟩
        have HI2 := Lib.hid (HI.out.push HJ.out hp)
        have HP2 := Lib.hid (HPN.out L' hp.perm)
        clear hp HC hl2 hl3 hc
        gi_wp2_with fail
        exact ⟨⟨i + 1, v', L', val_int (by omega), h, HI2, HP2⟩, ms_lt' h⟩
    · obtain rfl : i = N := by omega
      have HM0 : Hid (∃ m, RelA base hb A i R J (out R i (todo R (fun _ => 0) i) fun _ => 0) m wr) := Lib.hid ⟨_, fun _ => 0, v, L, [], HI, HP, Lib.hid rfl, rfl⟩
      clear HI HP HI1 h hi
      gi_wp2_with fail
      gi_loopw [6] (fun p6 wr => ∃ m, RelA base hb A i R J (out R i (todo R (fun _ => 0) i) fun _ => 0) m wr)
        (fun p6 wr => muOf (RelA base hb A i R J (out R i (todo R (fun _ => 0) i) fun _ => 0)) wr)
      case atStart => exact HM0.out
      case round =>
        clear HM0
        obtain ⟨m, hm1, hm2⟩ := muOf_spec hrel
        obtain ⟨p, v, L, pre, HI, HP, HO, hmt⟩ := hm2
        have HMU : Hid (muOf (RelA base hb A i R J (out R i (todo R (fun _ => 0) i) fun _ => 0)) wr = todo R p i) := Lib.hid (hm1.trans hmt)
        clear hm1 hmt hrel
        cases L with
        | nil =>
          have c0 : wr.cell? ⟨hb, 0, none⟩ = some v := HI.out.at_.blk.cell 0
          obtain ⟨Av, cv, hv⟩ := HI.out.at_.recs.slice
          subst hv
          have hnil : pre = out R i (todo R (fun _ => 0) i) fun _ => 0 := by
            have h1 := HO.out
            rw [out_none (curs_nil (List.nil_perm.1 HP.out)), List.append_nil] at h1
            exact h1
          have HNIL := Lib.hid hnil
          clear hnil
          gi_wp2
          go_end0
          exact ⟨⟨_, rfl⟩, .inl (by rw [← HNIL.out]; exact HI.out.j)⟩
        | cons r T =>
          have hok := HI.out.at_.ok r (List.mem_cons_self ..)
          obtain ⟨hb1, hb2, hb3, hb4⟩ := best_of HP.out (List.mem_cons_self ..) (fun c hc => by obtain ⟨j, hj⟩ := List.mem_iff_getElem?.1 hc; exact HI.out.heap.root (swo R) (r := r) rfl j c hj)
          have hlen : (r :: T).length ≤ 1048576 := by have h1 := HP.out.length_eq; have h2 := curs_len R i p; omega
          have HC := Lib.hid (pop_c wr base hb R v (r :: T) r rfl HI.out.at_ HI.out.heap HI.out.runs hlen HI.out.size)
          have HO2 : Hid (pre ++ [prAt R r] ++ out R i (todo R (bump p r.1) i) (bump p r.1) = out R i (todo R (fun _ => 0) i) fun _ => 0) := Lib.hid (by
            have h1 := HO.out
            rw [out_some hb1, ← hb2] at h1
            rw [List.append_assoc]
            exact h1)
          have HTB := Lib.hid (todo_bump hb4 hb3)
          have hx : (R r.1).ps[r.2]? = some (prAt R r) := by unfold prAt; rw [List.getElem?_eq_getElem hok]; rfl
          have c0 : wr.cell? ⟨hb, 0, none⟩ = some v := HI.out.at_.blk.cell 0
          obtain ⟨Av, cv, hv⟩ := HI.out.at_.recs.slice
          rw [List.length_map] at hv
          subst hv
          have HBB := Lib.hid (And.intro hb2 hb3)
          have HOK := Lib.hid hok
          have HX := Lib.hid hx
          have HLEN := Lib.hid hlen
          clear hb1 hb2 hb3 hb4 hok hx hlen
          gi_wp2_with fail
          refine ⟨trivial, fun h => by (cases h), (callsIn_wide.2 HC.out).mono ?_⟩
          rintro e w' ⟨rfl, v', L', hp⟩
          have HI2 := Lib.hid (HI.out.pop HJ.out hp)
          have HPM := Lib.hid (curs_bump (R := R) (N := i) (p := p) (L' := L') (i := r.1) (by rw [← HBB.out.1]; exact (hp.perm.symm.trans HP.out)) HBB.out.2)
          obtain ⟨k, cp, bR, oR, hleft, hnext, hk, hkc⟩ := left_next R r HI.out.runs HOK.out
          have HPX := Lib.hid (HI2.out.runs.cells _ _ _ HX.out)
          have HBO := Lib.hid (left_at hleft)
          have HNEXT := Lib.hid hnext
          have HKK := Lib.hid hk
          have HKC := Lib.hid hkc
          rw [hleft]
          clear hp HC c0 hleft hnext hk hkc HI
          have HX2 := Lib.hid (Blk.new w' [.int .i64 r.1, .slice (some ⟨bR, oR, none⟩) (k + 1) (cp + 1)] 60)
          have HI3 := Lib.hid (HI2.out.new HJ.out ((Below.refl _ w').alloc (Nat.le_refl _) (.cells #[.int .i64 r.1, .slice (some ⟨bR, oR, none⟩) (k + 1) (cp + 1)] 60)))
          have q0 : w'.cell? ⟨bR, oR, none⟩ = some (.string (prAt R r).1) := by rw [HBO.out.1, HBO.out.2]; exact HPX.out.1
          have q1 : w'.cell? ⟨bR, oR + 1, none⟩ = some (.string (prAt R r).2) := by rw [HBO.out.1, HBO.out.2]; exact HPX.out.2
          obtain ⟨fn, tmps, assign, body, hy, hR⟩ := HY.out pre (prAt R r) (w'.alloc (.cells #[.int .i64 r.1, .slice (some ⟨bR, oR, none⟩) (k + 1) (cp + 1)] 60)) HI3.out.j (by rw [← HO2.out]; simp)
          have HRR := Lib.hid hR
          clear hR
          have q2 := fun o => Lib.cell?_alloc_some (W := w') o q0
          have q3 := fun o => Lib.cell?_alloc_some (W := w') o q1
          clear q0 q1
          dsimp only [pcells] at hy
          generalize prAt R r = x at *
          obtain ⟨x1, x2⟩ := x
          dsimp only at hy q2 q3
          gi_wp2_with fail
          refine ⟨fun h => by (cases h), HRR.out.mono ?_⟩
          clear HRR hy q2 q3 HPX HX HY
          rintro e W3 (⟨rfl, hJ3, hk3⟩ | ⟨rfl, hJx3⟩)
          · have HX3 := Lib.hid (HX2.out.fr hk3 (fun e => e.2 (Mine.of_blk HX2.out (.inl rfl))))
            have HI4 := Lib.hid (HI3.out.round hJ3 hk3)
            have HCB : Hid (hb ≠ w'.heap.size ∧ (∀ j, v'.ownBlock = some j → j ≠ w'.heap.size) ∧ base ≤ w'.heap.size) := Lib.hid ⟨Nat.ne_of_lt HI2.out.at_.lt.1, fun j e => Nat.ne_of_lt (HI2.out.at_.lt.2 j e).1, HI2.out.size⟩
            clear hJ3 hk3 HX2 HI3 HI2
            generalize w'.heap.size = cb at *
            have d0 : W3.cell? ⟨cb, 0, none⟩ = some (.int .i64 r.1) := HX3.out.cell 0
            have d1 : W3.cell? ⟨cb, 1, none⟩ = some (.slice (some ⟨bR, oR, none⟩) (k + 1) (cp + 1)) := HX3.out.cell 1
            have fz : ∀ j, W3.frozen? ⟨cb, j, none⟩ = false := fun j => HX3.out.frozen j
            have HAF : Hid (act R (bump p r.1) r.1 ↔ 0 < k) := Lib.hid (by
              unfold act bump
              rw [if_pos rfl, ← HBB.out.1, HKK.out]
              omega)
            have HRel : Hid (∀ w4 v4 L4, AllI base hb A i R J w4 v4 L4 (pre ++ [(x1, x2)]) → L4.Perm (curs R i (bump p r.1)) →
                (∃ m, RelA base hb A i R J (out R i (todo R (fun _ => 0) i) fun _ => 0) m w4) ∧ muOf (RelA base hb A i R J (out R i (todo R (fun _ => 0) i) fun _ => 0)) w4 < muOf (RelA base hb A i R J (out R i (todo R (fun _ => 0) i) fun _ => 0)) wr) := Lib.hid fun w4 v4 L4 h1 h2 => by
              have hrel : RelA base hb A i R J (out R i (todo R (fun _ => 0) i) fun _ => 0) (todo R (bump p r.1) i) w4 := ⟨_, v4, L4, _, Lib.hid h1, Lib.hid h2, Lib.hid HO2.out, rfl⟩
              refine ⟨⟨_, hrel⟩, ?_⟩
              have h3 := muOf_le hrel
              rw [HMU.out]
              have := HTB.out
              omega
            have HC4 := fun u => Lib.hid (HI4.out.cur HJ.out HX3.out HCB.out.1 HCB.out.2.1 HCB.out.2.2 1 u)
            cases k with
            | zero =>
              have HP4 : Hid (L'.Perm (curs R i (bump p r.1))) := Lib.hid (by have h1 := HPM.out; rw [if_neg (fun h => absurd (HAF.out.1 h) (Nat.lt_irrefl 0))] at h1; exact h1)
              clear HPM HKK HKC HNEXT
              gi_wp2_with fail
              all_goals exact HRel.out _ _ _ (HC4 _).out HP4.out
            | succ k2 =>
              obtain ⟨c2, rfl⟩ : ∃ c2, cp = c2 + 1 := ⟨cp - 1, by have := HKC.out; omega⟩
              have HP4 : Hid (((r.1, r.2 + 1) :: L').Perm (curs R i (bump p r.1))) := Lib.hid (by have h1 := HPM.out; rw [if_pos (HAF.out.2 (Nat.succ_pos _)), ← HBB.out.1] at h1; exact h1)
              have HLN : Hid (L'.length < 1048576) := Lib.hid (by have h1 := HP4.out.length_eq; have h2 := curs_len R i (bump p r.1); simp at h1; omega)
              have HOK2 : Hid (okC R (r.1, r.2 + 1)) := Lib.hid (by unfold okC; rw [HKK.out]; simp only; omega)
              have HCP := fun u => Lib.hid (push_c (W3.setCell ⟨cb, 1, none⟩ u) base hb R v' L' (r.1, r.2 + 1) (HC4 u).out.at_ (HC4 u).out.heap (HC4 u).out.runs HOK2.out HLN.out (HC4 u).out.size)
              simp only [HNEXT.out] at HCP
              clear HPM HKK HKC HAF
              gi_wp2_with fail
              refine ⟨trivial, fun h => by (cases h), (callsIn_wide.2 (HCP _).out).mono ?_⟩
              rintro e w5 ⟨rfl, v5, L5, hp5⟩
              have HI5 := Lib.hid ((HC4 _).out.push HJ.out hp5)
              have HP5 := Lib.hid (hp5.perm.trans HP4.out)
              clear hp5 HCP
              gi_wp2_with fail
              exact HRel.out _ _ _ HI5.out HP5.out
          · gi_wp2
            refine bodyPost_ret (results_none rfl _ _ _) rfl ?_
            exact ⟨⟨_, rfl⟩, .inr ⟨pre ++ [(x1, x2)], ⟨_, HO2.out⟩, hJx3⟩⟩
end Mg
end Go.Proofs.Ytgeeaddbapjikaa
