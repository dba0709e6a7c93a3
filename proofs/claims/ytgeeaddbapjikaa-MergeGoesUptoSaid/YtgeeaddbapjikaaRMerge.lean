/- The document's Merge. -/
import Derived.Test.YtgeeaddbapjikaaMgSame
import Derived.Test.YtgeeaddbapjikaaMake
namespace Go.Proofs.Ytgeeaddbapjikaa
open Go.RowKit Go.Proofs.Ytgeeaddbapjikaa.St
set_option linter.unusedVariables false
set_option linter.unusedSimpArgs false
namespace Mg
/-- the document's runs -/
def DocAt (w : World) (D : Option Addr) (N : Nat) (R : Nat → Rn) : Prop :=
  ∀ i, i < N → ∃ g off A cap, D = some ⟨g, off, none⟩ ∧ g < w.heap.size ∧ w.cell? ⟨g, off + i, none⟩ = some (.slice A (R i).ps.length cap) ∧ PsAt w A (R i).ps
theorem DocAt.below {w w' : World} {D : Option Addr} {N : Nat} {R : Nat → Rn} (h : DocAt w D N R) (hb : Below w.heap.size w w') : DocAt w' D N R := fun i hi => by
  obtain ⟨g, off, A, cap, h1, h2, h3, h4⟩ := h i hi
  exact ⟨g, off, A, cap, h1, Nat.lt_of_lt_of_le h2 hb.size, (hb.cell (p := ⟨g, off + i, none⟩) h2).trans h3, h4.below hb⟩
def optI : Option Nat → Int
  | none => -1
  | some j => j
def atsC (p : Nat → Nat) (N : Nat) : List Value := (List.range N).map fun i => .int .i64 (p i : Int)
theorem atsC_get {p : Nat → Nat} {N i : Nat} (h : i < N) : (atsC p N)[i]? = some (.int .i64 (p i : Int)) := by simp [atsC, h]
theorem atsC_set {p : Nat → Nat} {N i : Nat} (h : i < N) : (atsC p N).set i (.int .i64 ((p i + 1 : Nat) : Int)) = atsC (bump p i) N := by
  apply List.ext_getElem?
  intro j
  by_cases e : j = i
  · subst e
    rw [List.getElem?_set_self (by simp [atsC]; exact h), atsC_get h]
    simp [bump]
  · rw [List.getElem?_set_ne (fun q => e q.symm)]
    by_cases hj : j < N
    · rw [atsC_get hj, atsC_get hj]
      simp [bump, e]
    · rw [List.getElem?_eq_none (by simp [atsC]; omega), List.getElem?_eq_none (by simp [atsC]; omega)]
theorem atsC_zero (N : Nat) : atsC (fun _ => 0) N = List.replicate N (.int .i64 0) := by
  unfold atsC
  rw [List.map_const', List.length_range]
  rfl
theorem pick_no {R : Nat → Rn} {p : Nat → Nat} {b : Option Nat} {i : Nat} (h : ¬ act R p i) : pick R p b i = b := by unfold pick; rw [if_neg h]
theorem pick_first {R : Nat → Rn} {p : Nat → Nat} {i : Nat} (h : act R p i) : pick R p none i = some i := by unfold pick; rw [if_pos h]
theorem pick_some {R : Nat → Rn} {p : Nat → Nat} {i j : Nat} (h : act R p i) : pick R p (some j) i = if bl (key R (i, p i)) (key R (j, p j)) then some i else some j := by unfold pick; rw [if_pos h]
set_option maxRecDepth 20000 in
set_option maxHeartbeats 8000000 in
theorem rmerge_c (W : World) (D : Option Addr) (N Nc : Nat) (R : Nat → Rn) (hD : DocAt W D N R) (hN : N ≤ 1048576) (hO : (out R N (todo R (fun _ => 0) N) fun _ => 0).length ≤ 1048576) (hl : ∀ i, i < N → (R i).ps.length ≤ 1048576) :
    Calls Try.prog 10 #[.slice D N Nc] W fun e w' => ∃ v, e = .returned v ∧ Recs w' W.heap.size 53 2 v ((out R N (todo R (fun _ => 0) N) fun _ => 0).map prc) ∧ Below W.heap.size W w' := by
  have HD := Lib.hid hD
  have HN := Lib.hid hN
  have HO := Lib.hid hO
  have hmk := fun w => run_make1 (P := Try.prog) 39 3 (.int .i64 0) 8 Try.underlying39 (by kernel_rfl) rfl N (by omega) (by omega) w
  have HMK := Lib.hid hmk
  have HM := Lib.hid (Blk.make W N (.int .i64 0) 3)
  have HB1 := Lib.hid ((Below.refl W.heap.size W).alloc (Nat.le_refl _) (.cells (rep N (.int .i64 0)) 3))
  have HLL := Lib.hid hl
  clear hD hN hO hmk hl
  have hmk := HMK.out
  go_enter Try.func10, Try.ntmps10
  go_wp2_with fail
  rw [← atsC_zero] at HM
  generalize W.alloc (.cells (rep N (.int .i64 0)) 3) = w1 at *
  clear hmk HMK
  go_loopg [4] (todo R (fun _ => 0) N) (fun g v wr => ∃ (p : Nat → Nat) (pre : List Pr), g = todo R p N ∧ Hid (Recs wr W.heap.size 53 2 v (pre.map prc)) ∧ Hid (Blk wr W.heap.size (atsC p N) 3) ∧ Hid (pre ++ out R N (todo R p N) p = out R N (todo R (fun _ => 0) N) fun _ => 0) ∧ Hid (Below W.heap.size W wr))
  case atStart => exact ⟨fun _ => 0, [], rfl, Lib.hid (Recs.nil _ _ _ _), HM, Lib.hid rfl, HB1⟩
  case round =>
    obtain ⟨p, pre, hg, HR, HA, HP, HB⟩ := hrel
    have HG := Lib.hid hg
    clear hg HM HB1
    go_upto_block 2 with (fail)
    go_cut [5, 6] (fun bv kv wc => ∃ m, wc = wr.drewN m ∧ bv = .int .i64 (optI (best R p N)))
    case first =>
      go_wp2_with fail
      go_loopg [5, 6] N (fun g bv kv wi => ∃ (k m : Nat), bv = .int .i64 (optI (best R p k)) ∧ kv = .int .i64 k ∧ k ≤ N ∧ g = N - k ∧ wi = wr.drewN m)
      case atStart => exact ⟨0, 0, rfl, rfl, Nat.zero_le _, rfl, rfl⟩
      case round =>
        obtain ⟨k, m, rfl, rfl, hk, hg, rfl⟩ := hrel
        have HG2 := Lib.hid hg
        clear hg
        by_cases hlt : k < N
        · obtain ⟨g, off, A, cap, rfl, hgl, hc, hps⟩ := HD.out k hlt
          have d0 : wr.cell? ⟨g, off + k, none⟩ = some (.slice A (R k).ps.length cap) := (HB.out.cell (p := ⟨g, off + k, none⟩) hgl).trans hc
          have e0 : wr.cell? ⟨W.heap.size, k, none⟩ = some (.int .i64 (p k : Int)) := (HA.out.cell k).trans (atsC_get hlt)
          have HBS := Lib.hid (best_succ R p k)
          have HSM := Lib.hid (fun j (hj : best R p k = some j) => best_some hj)
          have hnx := lt_i64 hk HN.out
          have HNX := Lib.hid hnx.1
          have hdl : k < (atsC p N).length := by simp [atsC]; exact hlt
          clear hc hnx
          generalize best R p k = b at *
          by_cases ha : act R p k
          · have x1 : (p k : Int) < ((R k).ps.length : Int) := Int.ofNat_lt.2 ha
            have x2 : decide (p k < (R k).ps.length) = true := decide_eq_true ha
            cases b with
            | none =>
              have HBN : Hid (best R p (k + 1) = some k) := Lib.hid (by rw [HBS.out, pick_first ha])
              have HAX := Lib.hid ha
              clear ha
              simp only [optI]
              go_upto_region 7 with (fail)
              go_quiet (fail)
              go_wp2
              go_roundg (N - (k + 1))
              case measure => have := HG2.out; omega
              case rel => exact ⟨k + 1, _, by rw [HBN.out]; rfl, congrArg (Value.int .i64) HNX.out, hlt, rfl, rfl⟩
            | some j =>
              obtain ⟨hj0, hj2, _⟩ := HSM.out j rfl
              have hj1 : j < N := Nat.lt_trans hj0 hlt
              obtain ⟨g2, off2, A2, cap2, hq, hgl2, hc2, hps2⟩ := HD.out j hj1
              cases hq
              obtain ⟨x, hx⟩ : ∃ x, (R k).ps[p k]? = some x := ⟨(R k).ps[p k]'ha, List.getElem?_eq_getElem _⟩
              obtain ⟨y, hy⟩ : ∃ y, (R j).ps[p j]? = some y := ⟨(R j).ps[p j]'hj2, List.getElem?_eq_getElem _⟩
              obtain ⟨b1, o1, rfl, hb1, u1, _⟩ := hps (p k) x hx
              obtain ⟨b2, o2, rfl, hb2, u2', _⟩ := hps2 (p j) y hy
              have f0 : wr.cell? ⟨g, off + j, none⟩ = some (.slice (some ⟨b2, o2, none⟩) (R j).ps.length cap2) := (HB.out.cell (p := ⟨g, off + j, none⟩) hgl).trans hc2
              have f1 : wr.cell? ⟨W.heap.size, j, none⟩ = some (.int .i64 (p j : Int)) := (HA.out.cell j).trans (atsC_get hj1)
              have f2 : wr.cell? ⟨b1, o1 + p k * 2, none⟩ = some (.string x.1) := (HB.out.cell (p := ⟨b1, o1 + p k * 2, none⟩) hb1).trans u1
              have f3 : wr.cell? ⟨b2, o2 + p j * 2, none⟩ = some (.string y.1) := (HB.out.cell (p := ⟨b2, o2 + p j * 2, none⟩) hb2).trans u2'
              have ekx : key R (k, p k) = x.1 := by unfold key prAt; simp only; rw [hx]; rfl
              have eky : key R (j, p j) = y.1 := by unfold key prAt; simp only; rw [hy]; rfl
              have HBN : Hid (best R p (k + 1) = if bl x.1 y.1 then some k else some j) := Lib.hid (by rw [HBS.out, pick_some ha, ekx, eky])
              have x3 : (p j : Int) < ((R j).ps.length : Int) := Int.ofNat_lt.2 hj2
              have x4 : decide (p j < (R j).ps.length) = true := decide_eq_true hj2
              have x5 : ¬ (j : Int) < 0 := by omega
              have HAX := Lib.hid (And.intro ha hj2)
              have hll : p k < (R k).ps.length := ha
              have hlj : p j < (R j).ps.length := hj2
              clear ha hj2 hx hy hps hps2 hc2 u1 u2' ekx eky hgl2 hb1 hb2
              simp only [optI]
              generalize hbl : bl x.1 y.1 = q at HBN
              have hbl2 : Op.bytesLess x.1.toList y.1.toList = q := hbl
              have HBL := Lib.hid hbl
              clear hbl
              go_upto_region 7 with (fail)
              go_quiet (fail)
              cases q
              · go_wp2
                go_roundg (N - (k + 1))
                case measure => have := HG2.out; omega
                case rel => exact ⟨k + 1, _, by rw [HBN.out]; rfl, congrArg (Value.int .i64) HNX.out, hlt, rfl, rfl⟩
              · go_wp2
                go_roundg (N - (k + 1))
                case measure => have := HG2.out; omega
                case rel => exact ⟨k + 1, _, by rw [HBN.out]; rfl, congrArg (Value.int .i64) HNX.out, hlt, rfl, rfl⟩
          · have x1 : ¬ (p k : Int) < ((R k).ps.length : Int) := fun e => ha (Int.ofNat_lt.1 e)
            have x2 : decide (p k < (R k).ps.length) = false := decide_eq_false ha
            have HBN : Hid (best R p (k + 1) = b) := Lib.hid (by rw [HBS.out, pick_no ha])
            clear ha HSM
            go_upto_region 7 with (fail)
            go_quiet (fail)
            go_wp2
            go_roundg (N - (k + 1))
            case measure => have := HG2.out; omega
            case rel => exact ⟨k + 1, _, by rw [HBN.out], congrArg (Value.int .i64) HNX.out, hlt, rfl, rfl⟩
        · obtain rfl : k = N := by omega
          go_wp2
          go_meet
          exact ⟨m, rfl, rfl⟩
    obtain ⟨m, rfl, rfl⟩ := hcut
    cases hb : best R p N with
    | none =>
      have HFin : Hid (pre = out R N (todo R (fun _ => 0) N) fun _ => 0) := Lib.hid (by have := HP.out; rw [out_none hb, List.append_nil] at this; exact this)
      clear hb
      simp only [optI]
      go_wp2
      go_ret
      exact ⟨_, rfl, by rw [← HFin.out]; exact HR.out.drewN m, below_drewN HB.out m⟩
    | some i =>
      obtain ⟨hi1, hi2, _⟩ := best_some hb
      obtain ⟨g, off, A, cap, rfl, hgl, hc, hps⟩ := HD.out i hi1
      obtain ⟨x, hx⟩ : ∃ x, (R i).ps[p i]? = some x := ⟨(R i).ps[p i]'hi2, List.getElem?_eq_getElem _⟩
      obtain ⟨b1, o1, rfl, hb1, u1, u2'⟩ := hps (p i) x hx
      have HO2 : Hid (pre ++ [x] ++ out R N (todo R (bump p i) N) (bump p i) = out R N (todo R (fun _ => 0) N) fun _ => 0) := Lib.hid (by
        have h1 := HP.out
        rw [out_some hb] at h1
        have e : prAt R (i, p i) = x := by unfold prAt; simp only; rw [hx]; rfl
        rw [e] at h1
        rw [List.append_assoc]; exact h1)
      have HTB := Lib.hid (todo_bump hi2 hi1)
      have HPL : Hid (pre.length < 1048576) := Lib.hid (by have h1 := congrArg List.length HO2.out; have h2 := HO.out; simp at h1; omega)
      have x5 : ¬ (i : Int) < 0 := by omega
      have hll : p i < (R i).ps.length := hi2
      simp only [optI]
      obtain ⟨Av, cv, hv⟩ := HR.out.slice
      rw [List.length_map] at hv
      subst hv
      go_upto_region 11 with (fail)
      have HR2 := Lib.hid (HR.out.drewN m)
      have HA2 := Lib.hid (HA.out.drewN m)
      have HB2 := Lib.hid (below_drewN HB.out m)
      have HI1 := Lib.hid hi1
      clear HR HA HB HP hb
      generalize wr.drewN m = w2 at *
      have d0 : w2.drew.cell? ⟨g, off + i, none⟩ = some (.slice (some ⟨b1, o1, none⟩) (R i).ps.length cap) := (HB2.out.cell (p := ⟨g, off + i, none⟩) hgl).trans hc
      have e0 : w2.drew.cell? ⟨W.heap.size, i, none⟩ = some (.int .i64 (p i : Int)) := (HA2.out.cell i).trans (atsC_get hi1)
      have f0 : w2.drew.cell? ⟨b1, o1 + p i * 2, none⟩ = some (.string x.1) := (HB2.out.cell (p := ⟨b1, o1 + p i * 2, none⟩) hb1).trans u1
      have f1 : w2.drew.cell? ⟨b1, o1 + p i * 2 + 1, none⟩ = some (.string x.2) := (HB2.out.cell (p := ⟨b1, o1 + p i * 2 + 1, none⟩) hb1).trans u2'
      have HOW : Hid (w2.ownsRow W.heap.size 53 2 (.slice Av pre.length cv) pre.length (pre.map prc).flatten) := Lib.hid (by have := HR2.out.own; rw [List.length_map] at this; exact this)
      have HK1 : Hid (∀ w', w2.grownBy w' (Value.slice Av pre.length cv).ownBlock → Blk w' W.heap.size (atsC p N) 3) := Lib.hid fun w' hg => HA2.out.fr (Fr.of_grown hg (S := fun j => (Value.slice Av pre.length cv).ownBlock = some j) fun _ e => e) (own_ne HR2.out.own HA2.out (by decide))
      have HPI := Lib.hid (lt_i64 (Nat.le_of_lt hi2) (HLL.out i hi1))
      have HL1 := Lib.hid (len_ok HPL.out)
      have HL2 := Lib.hid (len_ok2 HPL.out)
      have HL3 := Lib.hid HB2.out.size
      clear hc hps hx u1 u2' hi2 hgl hb1
      obtain ⟨x1, x2⟩ := x
      dsimp only at f0 f1
      go_region_law ((refine step_app_d (by rfl) (.tmp 59) (.tmp 70) 27 (by rfl) W.heap.size 53 _ 2 32 Try.underlying27 rpair_info rfl (by decide) (.slice Av pre.length cv) pre.length _ (by rfl) HOW.out [.string x1, .string x2] 53 1 1 (by rfl) (by rfl) (by rfl) HL1.out HL2.out HL3.out ?_; intro v' w3 hO hG hN; have hK := HK1.out w3 hG.out; obtain ⟨A', c', rfl⟩ := own_slice hO.out))
      all_goals
        have HKK := Lib.hid hK
        have HOO := Lib.hid hO.out
        have HGG := Lib.hid hG.out
        have e1 : w3.cell? ⟨W.heap.size, i, none⟩ = some (.int .i64 (p i : Int)) := (hK.cell i).trans (atsC_get HI1.out)
        have fz : w3.frozen? ⟨W.heap.size, i, none⟩ = false := hK.frozen i
        have hw := (HPI.out).1
        have HIL : i < N := HI1.out
        clear hK hO hG hN d0 e0 f0 f1 HK1
        go_wp2_with fail
        go_roundg (todo R (bump p i) N)
        case measure => have := HG.out; have := HTB.out; omega
        case rel =>
          have hR3 : Recs w3 W.heap.size 53 2 (.slice A' (pre.length + 1) c') ((pre ++ [(x1, x2)]).map prc) := by
            rw [List.map_append]
            exact HR2.out.app (prc (x1, x2)) rfl (by rw [List.length_map]; exact HOO.out)
          have hf3 : Fr w3 (w3.setCell ⟨W.heap.size, i, none⟩ (.int .i64 ((p i + 1 : Nat) : Int))) (fun j => j = W.heap.size) := (Fr.refl w3 _).setCell _ _ fun _ => rfl
          have hne := own_ne hR3.own HKK.out (by decide)
          have hbl := below_row HOW.out HGG.out HB2.out (Nat.le_refl _) HB2.out.size
          have hset := HKK.out.set i (.int .i64 ((p i + 1 : Nat) : Int))
          rw [atsC_set HI1.out] at hset
          exact ⟨bump p i, pre ++ [(x1, x2)], rfl, Lib.hid (hR3.fr hf3 fun k e e' => hne (e' ▸ e)), Lib.hid hset, HO2, Lib.hid (hbl.trans (hf3.below (fun j _ e => by rw [e]; exact Nat.le_refl _) hbl.size))⟩
end Mg
end Go.Proofs.Ytgeeaddbapjikaa
