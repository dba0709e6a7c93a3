/- attempts: the reference's board: Start, Ready. (Under way.) -/
import Derived.Test.YtkcloaoaldklhaaAttRef3
namespace Ar
def isRun (t : Int) (x : Try) : Bool := decide (x.task = t) && decide (x.state = 0)
def runs (l : List Try) (t : Int) : List Try := l.filter (isRun t)
def lastR (l : List Try) (t : Int) : Try := (runs l t).getLastD ⟨0, 0, 0, 0, 0, false⟩
def isIdle (S : Bd) (i : Nat) : Bool := may S (i : Int) && decide ((runs S.l (i : Int)).length = 0)
def isSlow (S : Bd) (node now : Int) (i : Nat) : Bool := may S (i : Int) && (decide ((runs S.l (i : Int)).length = 1) && (decide ((lastR S.l (i : Int)).node ≠ node) && decide ((lastR S.l (i : Int)).begun ≤ At.clamp now 0 1099511627776 - S.patience)))
def idle (S : Bd) (k : Nat) : List Int := ((List.range k).filter (isIdle S)).map Int.ofNat
def slow (S : Bd) (node now : Int) (k : Nat) : List Int := ((List.range k).filter (isSlow S node now)).map Int.ofNat
def ready (S : Bd) (node now : Int) : List Int := if dead S then [] else if 0 < (idle S (S.maps + S.reds)).length then idle S (S.maps + S.reds) else slow S node now (S.maps + S.reds)
theorem idle_succ (S : Bd) (k : Nat) : idle S (k + 1) = idle S k ++ if isIdle S k then [(k : Int)] else [] := by
  unfold idle
  rw [List.range_succ, List.filter_append, List.map_append]
  congr 1
  cases h : isIdle S k <;> simp [h]
theorem slow_succ (S : Bd) (node now : Int) (k : Nat) : slow S node now (k + 1) = slow S node now k ++ if isSlow S node now k then [(k : Int)] else [] := by
  unfold slow
  rw [List.range_succ, List.filter_append, List.map_append]
  congr 1
  cases h : isSlow S node now k <;> simp [h]
theorem idle_le (S : Bd) (k : Nat) : (idle S k).length ≤ k := by
  unfold idle
  rw [List.length_map]
  exact Nat.le_trans (List.length_filter_le _ _) (by simp)
theorem slow_le (S : Bd) (node now : Int) (k : Nat) : (slow S node now k).length ≤ k := by
  unfold slow
  rw [List.length_map]
  exact Nat.le_trans (List.length_filter_le _ _) (by simp)
theorem runs_succ {l : List Try} {k : Nat} {x : Try} (hx : l[k]? = some x) (t : Int) : runs (l.take (k + 1)) t = runs (l.take k) t ++ if isRun t x then [x] else [] := by
  unfold runs
  rw [List.take_add_one, hx, List.filter_append]
  congr 1
  cases h : isRun t x <;> simp [h]
/-- the place of the last that runs -/
def LastAt (l : List Try) (i : Nat) (t : Int) (j : Nat) : Prop := j ≤ l.length ∧ (0 < (runs (l.take i) t).length → l[j]? = some (lastR (l.take i) t))
theorem LastAt.start (l : List Try) (t : Int) : LastAt l 0 t 0 := ⟨Nat.zero_le _, fun e => by simp [runs] at e⟩
theorem LastAt.yes {l : List Try} {k : Nat} {x : Try} (hx : l[k]? = some x) {t : Int} (hr : isRun t x = true) : LastAt l (k + 1) t k := by
  have hk := (List.getElem?_eq_some_iff.1 hx).1
  refine ⟨Nat.le_of_lt hk, fun _ => ?_⟩
  unfold lastR
  rw [runs_succ hx, if_pos hr, hx]
  simp
theorem LastAt.no {l : List Try} {k j : Nat} {x : Try} (hx : l[k]? = some x) {t : Int} (hr : isRun t x = false) (h : LastAt l k t j) : LastAt l (k + 1) t j := by
  have h2 := h.2
  refine ⟨h.1, ?_⟩
  unfold lastR at h2 ⊢
  rw [runs_succ hx, hr]
  simpa using h2
theorem runs_le (l : List Try) (i : Nat) (t : Int) : (runs (l.take i) t).length ≤ i := Nat.le_trans (List.length_filter_le _ _) (by rw [List.length_take]; omega)
def start (S : Bd) (t node now : Int) : Int × Bd := if 0 ≤ t ∧ t < (S.maps : Int) + S.reds ∧ dead S = false ∧ may S t = true then (((S.l.countP (fun x => decide (x.task = t)) : Nat) : Int) + 1, { S with l := S.l ++ [⟨t, ((S.l.countP (fun x => decide (x.task = t)) : Nat) : Int) + 1, node, At.clamp now 0 1099511627776, 0, false⟩] }) else (0, S)
end Ar
namespace Go.Proofs.Ytkcloaoaldklhaa
open Go.RowKit
set_option linter.unusedVariables false
set_option linter.unusedSimpArgs false
set_option maxRecDepth 20000 in
set_option maxHeartbeats 8000000 in
theorem rready_c (B rt : Nat) (v : Value) (S : Ar.Bd) (node now : Int) (w : World) (h : RefAt w B rt v S) (hn : S.l.length < 4000000000000) (hm : S.maps ≤ 5000) (hr : S.reds ≤ 5000) (hp : 1 ≤ S.patience ∧ S.patience ≤ 1099511627776) :
    Calls Try.prog 24 #[.pointer (some ⟨rt, 0, none⟩), .int .i64 node, .int .i64 now] w (IntsNew w (Ar.ready S node now)) := by
  have HD := Lib.hid (rdead_c B rt v S w h hn hm hr)
  have HA := Lib.hid h
  have HN := Lib.hid hn
  obtain ⟨A0, cA, hv0⟩ := h.slice
  subst hv0
  have HRD : Hid (Ar.ready S node now = if Ar.dead S then [] else if 0 < (Ar.idle S (S.maps + S.reds)).length then Ar.idle S (S.maps + S.reds) else Ar.slow S node now (S.maps + S.reds)) := Lib.hid rfl
  have HP := Lib.hid hp
  have HM2 := Lib.hid hm
  have z0 : ∀ wr, Below w.heap.size w wr → wr.cell? ⟨rt, 0, none⟩ = some (.int .i64 (S.maps : Int)) := fun wr hb => (h.blk.below hb h.blk.lt).cell 0
  have z1 : ∀ wr, Below w.heap.size w wr → wr.cell? ⟨rt, 1, none⟩ = some (.int .i64 (S.reds : Int)) := fun wr hb => (h.blk.below hb h.blk.lt).cell 1
  have z3 : ∀ wr, Below w.heap.size w wr → wr.cell? ⟨rt, 3, none⟩ = some (.int .i64 S.patience) := fun wr hb => (h.blk.below hb h.blk.lt).cell 3
  have z4 : ∀ wr, Below w.heap.size w wr → wr.cell? ⟨rt, 4, none⟩ = some (.slice A0 S.l.length cA) := fun wr hb => (h.blk.below hb h.blk.lt).cell 4
  have Z0 := Lib.hid z0
  have Z1 := Lib.hid z1
  have Z3 := Lib.hid z3
  have Z4 := Lib.hid z4
  obtain ⟨m, hmm⟩ : ∃ m, m = S.maps := ⟨_, rfl⟩
  obtain ⟨r, hrr⟩ : ∃ r, r = S.reds := ⟨_, rfl⟩
  rw [← hmm] at Z0 HRD hm
  rw [← hrr] at Z1 HRD hr
  have HM := Lib.hid (And.intro hm hr)
  clear h hn hm hr hmm hrr hp z0 z1 z3 z4
  have e1 : IntKind.i64.wrap ((m : Int) + (r : Int)) = (m : Int) + (r : Int) := by have := HM.out; rw [IntKind.wrap_i64]; omega
  have e2 : wrap64 ((m : Int) + (r : Int)) = (m : Int) + (r : Int) := by have := HM.out; unfold wrap64; omega
  cases hd : Ar.dead S with
  | true =>
    rw [hd] at HD HRD
    have HF : Hid (Ar.ready S node now = []) := Lib.hid HRD.out
    clear hd
    go_enter Try.func24, Try.ntmps24
    go_wp2_with fail
    refine HD.out.mono ?_
    rintro _ w0 ⟨rfl, hf0⟩
    have HB0 := Lib.hid (frNone_below hf0.fr (Nat.le_refl w.heap.size))
    clear hf0
    go_wp2_with fail
    exact bodyPost_ret (results_tmp (by rfl) _ _ _) (by rfl) ⟨_, by rfl, by rw [HF.out]; exact World.ownsRow_nil _ _ _ _, HB0.out⟩
  | false =>
    rw [hd] at HD HRD
    have HF : Hid (Ar.ready S node now = if 0 < (Ar.idle S (m + r)).length then Ar.idle S (m + r) else Ar.slow S node now (m + r)) := Lib.hid HRD.out
    clear hd HRD
    go_enter Try.func24, Try.ntmps24
    go_wp2_with fail
    refine HD.out.mono ?_
    rintro _ w0 ⟨rfl, hf0⟩
    have HB0 := Lib.hid (frNone_below hf0.fr (Nat.le_refl w.heap.size))
    clear hf0
    go_wp2_with fail
    go_loopg [7, 8, 9] (m + r) (fun gg v7 v8 v25 wr => ∃ k : Nat, v25 = .int .i64 (k : Int) ∧ k + gg = m + r ∧ Hid (wr.ownsRow w.heap.size 3 1 v7 (Ar.idle S k).length (ints (Ar.idle S k))) ∧ Hid (wr.ownsRow w.heap.size 3 1 v8 (Ar.slow S node now k).length (ints (Ar.slow S node now k))) ∧ Hid (∀ q, v7.ownBlock = some q → v8.ownBlock ≠ some q) ∧ Hid (Below w.heap.size w wr))
    case atStart => exact ⟨0, rfl, by omega, Lib.hid (World.ownsRow_nil _ _ _ _), Lib.hid (World.ownsRow_nil _ _ _ _), Lib.hid (fun q e => by cases e), HB0⟩
    case round =>
      obtain ⟨k, rfl, hgg, HO7, HO8, HAP, HB⟩ := hrel
      have z0 : ∀ d, (wr.drewN d).cell? ⟨rt, 0, none⟩ = some (.int .i64 (m : Int)) := fun d => Z0.out wr HB.out
      have z1 : ∀ d, (wr.drewN d).cell? ⟨rt, 1, none⟩ = some (.int .i64 (r : Int)) := fun d => Z1.out wr HB.out
      go_upto_region 5 with (fail)
      go_quiet (fail)
      replace HO7 := Lib.hid (own_drewN HO7.out nq)
      replace HO8 := Lib.hid (own_drewN HO8.out nq)
      replace HB := Lib.hid (below_drewN HB.out nq)
      clear z0 z1 HB0
      generalize wr.drewN nq = w3 at HO7 HO8 HB ⊢
      clear wr
      rename World => wr
      by_cases hlt : k < m + r
      · have t1 : decide ((k : Int) < (m : Int) + (r : Int)) = true := decide_eq_true (by omega)
        have t1n : decide (k < m + r) = true := decide_eq_true hlt
        have HBR : Hid (RefAt wr B rt (.slice A0 S.l.length cA) S) := Lib.hid (HA.out.frNone (Fr.of_below HB.out fun q h1 h2 => absurd h2 (Nat.not_lt.2 h1)))
        have HMY := Lib.hid (rmay_c B rt _ S (k : Int) wr HBR.out HN.out HM2.out)
        have HI : Hid (Ar.isIdle S k = (Ar.may S (k : Int) && decide ((Ar.runs S.l (k : Int)).length = 0))) := Lib.hid rfl
        have HSL : Hid (Ar.isSlow S node now k = (Ar.may S (k : Int) && (decide ((Ar.runs S.l (k : Int)).length = 1) && (decide ((Ar.lastR S.l (k : Int)).node ≠ node) && decide ((Ar.lastR S.l (k : Int)).begun ≤ At.clamp now 0 1099511627776 - S.patience))))) := Lib.hid rfl
        have HIS := Lib.hid (Ar.idle_succ S k)
        have HSS := Lib.hid (Ar.slow_succ S node now k)
        have HG := Lib.hid hgg
        have HLT := Lib.hid hlt
        have kw : k + 1 < 100000 := by have := HM.out; omega
        have HKW := Lib.hid kw
        clear hgg hlt kw
        rw [t1]
        generalize Ar.may S (k : Int) = mb at HMY HI HSL
        cases mb with
        | false =>
          have e1 : Ar.idle S (k + 1) = Ar.idle S k := by rw [HIS.out, HI.out]; simp
          have e2 : Ar.slow S node now (k + 1) = Ar.slow S node now k := by rw [HSS.out, HSL.out]; simp
          have E1 := Lib.hid e1
          have E2 := Lib.hid e2
          clear e1 e2
          have kw := HKW.out
          go_wp2_with fail
          refine HMY.out.mono ?_
          rintro _ _ ⟨rfl, rfl⟩
          go_wp2_with fail
          clear kw
          go_roundg (m + r - (k + 1))
          case measure => have := HG.out; have := HLT.out; omega
          case rel => exact ⟨k + 1, by first | rfl | go_num, by have := HG.out; have := HLT.out; omega, by rw [E1.out]; exact HO7, by rw [E2.out]; exact HO8, HAP, HB⟩
        | true =>
          go_wp2_with fail
          refine HMY.out.mono ?_
          rintro _ _ ⟨rfl, rfl⟩
          go_wp2_with fail
          clear HMY
          obtain ⟨A7, c7, hv7⟩ := own_slice HO7.out
          obtain ⟨A8, c8, hv8⟩ := own_slice HO8.out
          go_loopg [10, 11, 12] S.l.length (fun gi nv lv iv wq => ∃ (i j : Nat), iv = .int .i64 (i : Int) ∧ i + gi = S.l.length ∧ nv = .int .i64 ((Ar.runs (S.l.take i) (k : Int)).length : Int) ∧ lv = .int .i64 (j : Int) ∧ Hid (Ar.LastAt S.l i (k : Int) j) ∧ wr = wq)
          case atStart => exact ⟨0, 0, rfl, by omega, rfl, rfl, Lib.hid (Ar.LastAt.start _ _), rfl⟩
          case round =>
            obtain ⟨i, j, rfl, hi, rfl, rfl, HLA, rfl⟩ := hrel
            have HGI := Lib.hid hi
            have hrl := Ar.runs_le S.l i (k : Int)
            have z4 := Z4.out wr HB.out
            by_cases hl2 : i < S.l.length
            · have s1 : decide ((i : Int) < (S.l.length : Int)) = true := decide_eq_true (by omega)
              have s1n : decide (i < S.l.length) = true := decide_eq_true hl2
              have HL2 := Lib.hid hl2
              obtain ⟨x, hx⟩ : ∃ x, S.l[i]? = some x := ⟨S.l[i], List.getElem?_eq_getElem _⟩
              obtain ⟨g, cap, hv, _, _, ⟨c0, c1, c2, c3, c4, c5⟩, _⟩ := HBR.out.at hx
              cases hv
              have ia : ((i : Int)).toNat = i := by omega
              have ip : (0 : Int) ≤ (i : Int) := by omega
              have iz : (i : Int) < (S.l.length : Int) := by omega
              have iw : i + 1 < 4000000000001 := by have := HN.out; omega
              have hsc := Ar.runs_succ hx (k : Int)
              generalize hcc : (Ar.runs (S.l.take i) (k : Int)).length = c at hrl ⊢
              have cw : c + 1 < 4000000000001 := by have := HN.out; omega
              have HIW := Lib.hid hi
              clear hl2 hi hrl
              by_cases hq : x.task = (k : Int)
              · have q1 : (x.task == (k : Int)) = true := by rw [hq]; simp
                by_cases hs : x.state = 0
                · have q2 : (x.state == 0) = true := by rw [hs]; rfl
                  have hir : Ar.isRun (k : Int) x = true := by unfold Ar.isRun; rw [decide_eq_true hq, decide_eq_true hs]; rfl
                  have HC2 : Hid ((Ar.runs (S.l.take (i + 1)) (k : Int)).length = c + 1) := Lib.hid (by rw [hsc, if_pos hir, List.length_append, hcc]; rfl)
                  have HL3 := Lib.hid (Ar.LastAt.yes hx hir)
                  clear hq hs hx hsc hcc hir
                  go_wp2_with fail
                  clear iw cw
                  go_roundg (S.l.length - (i + 1))
                  case measure => have := HIW.out; have := HL2.out; omega
                  case rel => exact ⟨i + 1, i, by first | rfl | go_num, by have := HIW.out; have := HL2.out; omega, by rw [HC2.out]; first | rfl | go_num, rfl, HL3, rfl⟩
                · have q2 : (x.state == 0) = false := beq_eq_false_iff_ne.2 hs
                  have hir : Ar.isRun (k : Int) x = false := by unfold Ar.isRun; rw [decide_eq_false hs, Bool.and_false]
                  have HC2 : Hid ((Ar.runs (S.l.take (i + 1)) (k : Int)).length = c) := Lib.hid (by rw [hsc, hir]; simpa using hcc)
                  have HL3 := Lib.hid (Ar.LastAt.no hx hir HLA.out)
                  clear hq hs hx hsc hcc hir
                  go_wp2_with fail
                  clear iw cw
                  go_roundg (S.l.length - (i + 1))
                  case measure => have := HIW.out; have := HL2.out; omega
                  case rel => exact ⟨i + 1, j, by first | rfl | go_num, by have := HIW.out; have := HL2.out; omega, by rw [HC2.out], rfl, HL3, rfl⟩
              · have q1 : (x.task == (k : Int)) = false := beq_eq_false_iff_ne.2 hq
                have hir : Ar.isRun (k : Int) x = false := by unfold Ar.isRun; rw [decide_eq_false hq, Bool.false_and]
                have HC2 : Hid ((Ar.runs (S.l.take (i + 1)) (k : Int)).length = c) := Lib.hid (by rw [hsc, hir]; simpa using hcc)
                have HL3 := Lib.hid (Ar.LastAt.no hx hir HLA.out)
                clear hq hx hsc hcc hir
                go_wp2_with fail
                clear iw cw
                go_roundg (S.l.length - (i + 1))
                case measure => have := HIW.out; have := HL2.out; omega
                case rel => exact ⟨i + 1, j, by first | rfl | go_num, by have := HIW.out; have := HL2.out; omega, by rw [HC2.out], rfl, HL3, rfl⟩
            · have s1 : decide ((i : Int) < (S.l.length : Int)) = false := decide_eq_false (by omega)
              have s1n : decide (i < S.l.length) = false := decide_eq_false hl2
              obtain rfl : i = S.l.length := by omega
              rw [List.take_of_length_le (Nat.le_refl _)]
              have HLA2 : Hid (0 < (Ar.runs S.l (k : Int)).length → S.l[j]? = some (Ar.lastR S.l (k : Int))) := Lib.hid (by
                have := HLA.out.2
                rwa [List.take_of_length_le (Nat.le_refl _)] at this)
              generalize (Ar.runs S.l (k : Int)).length = c at HLA2 HI HSL ⊢
              generalize Ar.lastR S.l (k : Int) = y at HLA2 HSL
              have il := Ar.idle_le S k
              have sl := Ar.slow_le S node now k
              have HIL : Hid ((Ar.idle S k).length ≤ 100000 ∧ (Ar.slow S node now k).length ≤ 100000) := Lib.hid (by have := HKW.out; omega)
              clear il sl hrl hl2 hi HLA
              by_cases h0 : c = 0
              · have u1 : ((c : Int) == 0) = true := by rw [h0]; rfl
                have u2 : (c == 0) = true := by rw [h0]; rfl
                have e1 : Ar.idle S (k + 1) = Ar.idle S k ++ [(k : Int)] := by rw [HIS.out, HI.out, h0]; simp
                have e2 : Ar.slow S node now (k + 1) = Ar.slow S node now k := by rw [HSS.out, HSL.out, h0]; simp
                have E1 := Lib.hid e1
                have E2 := Lib.hid e2
                have kw := HKW.out
                clear e1 e2 h0
                subst hv7 hv8
                go_wp2_with (at_builtin; refine wpList_app rfl _ _ 35 rfl w.heap.size 3 _ 1 8 Try.underlying35 int_info rfl (by decide) _ (Ar.idle S k).length _ rfl HO7.out _ _ 1 1 rfl rfl rfl (by have := HIL.out; unfold maxLen; omega) (by have := HIL.out; omega) HB.out.size ?_; intro v' w7 hO hG hN)
                clear kw
                go_roundg (m + r - (k + 1))
                case measure => have := HG.out; have := HLT.out; omega
                case rel =>
                  exact ⟨k + 1, by first | rfl | go_num, by have := HG.out; have := HLT.out; omega, by rw [E1.out]; exact Lib.hid (ints_snoc hO.out), by rw [E2.out]; exact Lib.hid (own_grown HO8.out hG.out HAP.out), Lib.hid (apart_next HAP.out hN.out HO8.out), Lib.hid (below_row HO7.out hG.out HB.out (Nat.le_refl _) HB.out.size)⟩
              · have u1 : ((c : Int) == 0) = false := beq_eq_false_iff_ne.2 (by omega)
                have u2 : (c == 0) = false := beq_eq_false_iff_ne.2 h0
                have e1 : Ar.idle S (k + 1) = Ar.idle S k := by rw [HIS.out, HI.out]; simp [h0]
                have E1 := Lib.hid e1
                have hy := HLA2.out (by omega)
                have hyl := (List.getElem?_eq_some_iff.1 hy).1
                obtain ⟨g, cap, hv, _, _, ⟨c0, c1, c2, c3, c4, c5⟩, _⟩ := HBR.out.at hy
                cases hv
                have hz2 : ∀ m, (wr.drewN m).cell? ⟨g, j * 6 + 2, none⟩ = some (.int .i64 y.node) := fun m => c2
                have hz3 : ∀ m, (wr.drewN m).cell? ⟨g, j * 6 + 3, none⟩ = some (.int .i64 y.begun) := fun m => c3
                have hz4 : ∀ m, (wr.drewN m).cell? ⟨rt, 4, none⟩ = some (.slice (some ⟨g, 0, none⟩) S.l.length cA) := fun m => z4
                have hz5 : ∀ m, (wr.drewN m).cell? ⟨rt, 3, none⟩ = some (.int .i64 S.patience) := fun m => Z3.out wr HB.out
                have hcl := fun m => Lib.hid (rclamp_c now 0 1099511627776 (by decide) (wr.drewN m))
                have hwr : wrap64 (At.clamp now 0 1099511627776 - S.patience) = At.clamp now 0 1099511627776 - S.patience := by
                  have := HP.out
                  have h1 : 0 ≤ At.clamp now 0 1099511627776 ∧ At.clamp now 0 1099511627776 ≤ 1099511627776 := by unfold At.clamp; omega
                  unfold wrap64; omega
                have hwr2 : IntKind.i64.wrap (At.clamp now 0 1099511627776 - S.patience) = At.clamp now 0 1099511627776 - S.patience := by
                  have := HP.out
                  have h1 : 0 ≤ At.clamp now 0 1099511627776 ∧ At.clamp now 0 1099511627776 ≤ 1099511627776 := by unfold At.clamp; omega
                  rw [IntKind.wrap_i64]; omega
                generalize At.clamp now 0 1099511627776 = cn at hcl hwr hwr2 HSL
                have ja : ((j : Int)).toNat = j := by omega
                have jp : (0 : Int) ≤ (j : Int) := by omega
                have jz : (j : Int) < (S.l.length : Int) := by omega
                clear e1 h0 hy hyl c0 c1 c2 c3 c4 c5
                go_upto_region 17 with (fail)
                go_cut [103] from 68 to 103 (fun v wc => (∃ m, wc = wr.drewN m) ∧ v = .bool (decide (c = 1) && (decide (y.node ≠ node) && decide (y.begun ≤ cn - S.patience))))
                case first =>
                  by_cases h1 : c = 1
                  · have x1 : ((c : Int) == 1) = true := by rw [h1]; rfl
                    have x2 : (c == 1) = true := by rw [h1]; rfl
                    by_cases h2 : y.node ≠ node
                    · have x3 : (y.node != node) = true := bne_iff_ne.2 h2
                      have EQ : Hid ((decide (c = 1) && (decide (y.node ≠ node) && decide (y.begun ≤ cn - S.patience))) = decide (y.begun ≤ cn - S.patience)) := Lib.hid (by rw [decide_eq_true h1, decide_eq_true h2]; rfl)
                      clear h1 h2
                      go_quiet ((go_at_call 31; exact quiet_of (hcl _).out))
                      go_wp2
                      go_meet
                      exact ⟨⟨_, rfl⟩, by rw [EQ.out]⟩
                    · have x3 : (y.node != node) = false := by simpa using h2
                      have EQ : Hid ((decide (c = 1) && (decide (y.node ≠ node) && decide (y.begun ≤ cn - S.patience))) = false) := Lib.hid (by rw [decide_eq_true h1, decide_eq_false h2]; rfl)
                      clear h1 h2
                      go_quiet ((go_at_call 31; exact quiet_of (hcl _).out))
                      go_wp2
                      go_meet
                      exact ⟨⟨_, rfl⟩, by rw [EQ.out]⟩
                  · have x1 : ((c : Int) == 1) = false := beq_eq_false_iff_ne.2 (by omega)
                    have x2 : (c == 1) = false := beq_eq_false_iff_ne.2 h1
                    have EQ : Hid ((decide (c = 1) && (decide (y.node ≠ node) && decide (y.begun ≤ cn - S.patience))) = false) := Lib.hid (by rw [decide_eq_false h1]; rfl)
                    clear h1
                    go_quiet ((go_at_call 31; exact quiet_of (hcl _).out))
                    go_wp2
                    go_meet
                    exact ⟨⟨_, rfl⟩, by rw [EQ.out]⟩
                case rest =>
                  obtain ⟨⟨m2, rfl⟩, rfl⟩ := hcut
                  have HBm := Lib.hid (below_drewN HB.out m2)
                  have HO7m := Lib.hid (own_drewN HO7.out m2)
                  have HO8m := Lib.hid (own_drewN HO8.out m2)
                  have HSL2 : Hid (Ar.isSlow S node now k = (decide (c = 1) && (decide (y.node ≠ node) && decide (y.begun ≤ cn - S.patience)))) := Lib.hid (by rw [HSL.out]; rfl)
                  have kw := HKW.out
                  clear hz2 hz3 hz4 hz5 hcl hwr hwr2 HB HO7 HO8 HSL ja jp jz
                  generalize (decide (c = 1) && (decide (y.node ≠ node) && decide (y.begun ≤ cn - S.patience))) = bb at HSL2 ⊢
                  generalize wr.drewN m2 = w7 at HBm HO7m HO8m ⊢
                  subst hv7 hv8
                  cases bb with
                  | true =>
                    have e2 : Ar.slow S node now (k + 1) = Ar.slow S node now k ++ [(k : Int)] := by rw [HSS.out, HSL2.out]; simp
                    have E2 := Lib.hid e2
                    clear e2
                    go_wp2_with (at_builtin; refine wpList_app rfl _ _ 35 rfl w.heap.size 3 _ 1 8 Try.underlying35 int_info rfl (by decide) _ (Ar.slow S node now k).length _ rfl HO8m.out _ _ 1 1 rfl rfl rfl (by have := HIL.out; unfold maxLen; omega) (by have := HIL.out; omega) HBm.out.size ?_; intro v' w8 hO hG hN)
                    clear kw
                    go_roundg (m + r - (k + 1))
                    case measure => have := HG.out; have := HLT.out; omega
                    case rel =>
                      exact ⟨k + 1, by first | rfl | go_num, by have := HG.out; have := HLT.out; omega, by rw [E1.out]; exact Lib.hid (own_grown HO7m.out hG.out fun q e1 e2 => HAP.out q e2 e1), by rw [E2.out]; exact Lib.hid (ints_snoc hO.out), Lib.hid (fun q e1 e2 => apart_next (fun q a b => HAP.out q b a) hN.out HO7m.out q e2 e1), Lib.hid (below_row HO8m.out hG.out HBm.out (Nat.le_refl _) HBm.out.size)⟩
                  | false =>
                    have e2 : Ar.slow S node now (k + 1) = Ar.slow S node now k := by rw [HSS.out, HSL2.out]; simp
                    have E2 := Lib.hid e2
                    clear e2
                    go_wp2_with fail
                    clear kw
                    go_roundg (m + r - (k + 1))
                    case measure => have := HG.out; have := HLT.out; omega
                    case rel => exact ⟨k + 1, by first | rfl | go_num, by have := HG.out; have := HLT.out; omega, by rw [E1.out]; exact HO7m, by rw [E2.out]; exact HO8m, HAP, HBm⟩
      · have t1 : decide ((k : Int) < (m : Int) + (r : Int)) = false := decide_eq_false (by omega)
        have t1n : decide (k < m + r) = false := decide_eq_false hlt
        obtain rfl : k = m + r := by omega
        obtain ⟨A7, c7, e7⟩ := own_slice HO7.out
        obtain ⟨A8, c8, e8⟩ := own_slice HO8.out
        subst e7 e8
        clear hlt hgg HAP
        rw [t1]
        generalize hii : Ar.idle S (m + r) = idl at HO7 HF
        by_cases h0 : 0 < idl.length
        · have HRX : Hid (Ar.ready S node now = idl) := Lib.hid (by rw [HF.out, if_pos h0])
          have x1 : decide ((0 : Int) < (idl.length : Int)) = true := decide_eq_true (by omega)
          have x2 : decide (0 < idl.length) = true := decide_eq_true h0
          clear h0 hii HF
          go_wp2_with fail
          exact bodyPost_ret (results_tmp (by rfl) _ _ _) (by rfl) ⟨_, by rfl, by rw [HRX.out]; exact HO7.out, HB.out⟩
        · have HRX : Hid (Ar.ready S node now = Ar.slow S node now (m + r)) := Lib.hid (by rw [HF.out, if_neg h0])
          have x1 : decide ((0 : Int) < (idl.length : Int)) = false := decide_eq_false (by omega)
          have x2 : decide (0 < idl.length) = false := decide_eq_false h0
          clear h0 hii HF
          go_wp2_with fail
          exact bodyPost_ret (results_tmp (by rfl) _ _ _) (by rfl) ⟨_, by rfl, by rw [HRX.out]; exact HO8.out, HB.out⟩
theorem RefAt.add {w w' : World} {B rt : Nat} {v v' : Value} {S : Ar.Bd} (h : RefAt w B rt v S) (x : Ar.Try) (hO : w'.ownsRow B 48 6 v' ((S.l.map rtryC).length + 1) ((S.l.map rtryC).flatten ++ rtryC x)) (hG : w.grownBy w' v.ownBlock) (hN : v'.ownBlock = v.ownBlock ∨ ∃ q, v'.ownBlock = some q ∧ w.heap.size ≤ q) :
    RefAt (w'.setCell ⟨rt, 4, none⟩ v') B rt v' { S with l := S.l ++ [x] } ∧ RefR w rt v (w'.setCell ⟨rt, 4, none⟩ v') v' := by
  have hlt := h.blk.lt
  have hne : ∀ q, v'.ownBlock = some q → q ≠ rt := fun q e => by
    rcases hN with e2 | ⟨q2, e2, hq2⟩
    · exact h.ne q (e2 ▸ e)
    · rw [e2] at e
      have := Option.some.inj e
      omega
  have hf1 : Fr w w' (fun k => v.ownBlock = some k) := Fr.of_grown hG fun k e => e
  have hf2 : Fr w' (w'.setCell ⟨rt, 4, none⟩ v') (fun k => k = rt) := (Fr.refl w' _).setCell ⟨rt, 4, none⟩ v' fun _ => rfl
  refine ⟨⟨?_, ?_, h.lo, hne⟩, ⟨fun q e => ?_, (hf1.mono fun _ _ e => .inr e).trans (hf2.mono fun _ _ e => .inl e) fun _ _ e => e⟩⟩
  · exact (h.blk.fr hf1 (fun e => h.ne rt e rfl)).set 4 v'
  · have := h.row.app (w' := w') (v' := v') (rtryC x) rfl hO
    have := this.fr hf2 (fun q e e2 => hne q e e2)
    simpa using this
  · rcases hN with e2 | ⟨q2, e2, hq2⟩
    · exact .inl (e2 ▸ e)
    · rw [e2] at e
      have := Option.some.inj e
      exact .inr (by omega)
set_option maxRecDepth 20000 in
set_option maxHeartbeats 8000000 in
theorem rstart_c (B rt : Nat) (v : Value) (S : Ar.Bd) (t node now : Int) (w : World) (h : RefAt w B rt v S) (hn : S.l.length < 2932031007400) (hm : S.maps ≤ 5000) (hr : S.reds ≤ 5000) :
    Calls Try.prog 18 #[.pointer (some ⟨rt, 0, none⟩), .int .i64 t, .int .i64 node, .int .i64 now] w fun e w' => e = .returned (.int .i64 (Ar.start S t node now).1) ∧ RefTo w B rt v (Ar.start S t node now).2 w' := by
  have H := Lib.hid h
  have HN := Lib.hid hn
  obtain ⟨A0, cA, hv0⟩ := h.slice
  have z0 : w.cell? ⟨rt, 0, none⟩ = some (.int .i64 (S.maps : Int)) := h.blk.cell 0
  have z1 : w.cell? ⟨rt, 1, none⟩ = some (.int .i64 (S.reds : Int)) := h.blk.cell 1
  have z4 : w.cell? ⟨rt, 4, none⟩ = some (.slice A0 S.l.length cA) := by rw [← hv0]; exact h.blk.cell 4
  subst hv0
  obtain ⟨S2, hS2⟩ : ∃ S2 : Ar.Bd, S2 = { S with l := S.l ++ [⟨t, ((S.l.countP (fun x => decide (x.task = t)) : Nat) : Int) + 1, node, At.clamp now 0 1099511627776, 0, false⟩] } := ⟨_, rfl⟩
  have HS : Hid (Ar.start S t node now = if 0 ≤ t ∧ t < (S.maps : Int) + S.reds ∧ Ar.dead S = false ∧ Ar.may S t = true then (((S.l.countP (fun x => decide (x.task = t)) : Nat) : Int) + 1, S2) else (0, S)) := Lib.hid (by rw [hS2]; rfl)
  have HSE := Lib.hid hS2
  clear hS2
  have hno : ∀ e w', (e = Ending.returned (.int .i64 0) ∧ w = w') → ¬ (0 ≤ t ∧ t < (S.maps : Int) + S.reds ∧ Ar.dead S = false ∧ Ar.may S t = true) → e = .returned (.int .i64 (Ar.start S t node now).1) ∧ RefTo w B rt (.slice A0 S.l.length cA) (Ar.start S t node now).2 w' := by
    rintro e w' ⟨rfl, rfl⟩ hr
    rw [HS.out, if_neg hr]
    exact ⟨rfl, _, H.out, RefR.refl _ _ _⟩
  obtain ⟨m, hmm⟩ : ∃ m, m = S.maps := ⟨_, rfl⟩
  obtain ⟨r, hrr⟩ : ∃ r, r = S.reds := ⟨_, rfl⟩
  rw [← hmm] at z0 hm HS hno
  rw [← hrr] at z1 hr HS hno
  have HM := Lib.hid (And.intro hm hr)
  clear h hn
  have e1 : IntKind.i64.wrap ((m : Int) + (r : Int)) = (m : Int) + (r : Int) := by have := HM.out; rw [IntKind.wrap_i64]; omega
  have e2 : wrap64 ((m : Int) + (r : Int)) = (m : Int) + (r : Int) := by have := HM.out; unfold wrap64; omega
  have hD : ∀ n, Hid (Calls Try.prog 26 #[.pointer (some ⟨rt, 0, none⟩)] (w.drewN n) fun e w' => e = .returned (.bool (Ar.dead S)) ∧ ∃ d, w' = w.drewN d) := fun n => Lib.hid ((rdead_c B rt (.slice A0 S.l.length cA) S (w.drewN n) (H.out.frNone ((Fr.refl w _).drewN n)) (by have := HN.out; omega) (by rw [hmm] at hm; exact hm) (by rw [hrr] at hr; exact hr)).mono fun e w' ⟨h1, h2⟩ => ⟨h1, h2.of⟩)
  have hY : ∀ n, Hid (Calls Try.prog 32 #[.pointer (some ⟨rt, 0, none⟩), .int .i64 t] (w.drewN n) fun e w' => e = .returned (.bool (Ar.may S t)) ∧ ∃ d, w' = w.drewN d) := fun n => Lib.hid (quiet_of (rmay_c B rt (.slice A0 S.l.length cA) S t (w.drewN n) (H.out.frNone ((Fr.refl w _).drewN n)) (by have := HN.out; omega) (by rw [hmm] at hm; exact hm)))
  clear hm hr hmm hrr
  have hz0 : ∀ d, (w.drewN d).cell? ⟨rt, 0, none⟩ = some (.int .i64 (m : Int)) := fun d => z0
  have hz1 : ∀ d, (w.drewN d).cell? ⟨rt, 1, none⟩ = some (.int .i64 (r : Int)) := fun d => z1
  clear z0 z1
  obtain ⟨cd, hcd⟩ : ∃ cd : Bool, cd = (decide (0 ≤ t) && (decide (t < (m : Int) + r) && (!Ar.dead S && Ar.may S t))) := ⟨_, rfl⟩
  have HCD := Lib.hid hcd
  clear hcd
  go_enter Try.func18, Try.ntmps18
  go_upto_region 1 with (fail)
  go_cut [35] from 11 to 35 (fun v wc => (∃ d, wc = w.drewN d) ∧ v = .bool (!cd))
  case first =>
    by_cases h0 : t < 0
    · have t1 : decide (t < 0) = true := decide_eq_true h0
      have HC : Hid (cd = false) := Lib.hid (by rw [HCD.out, decide_eq_false (by omega), Bool.false_and])
      clear h0 hno
      go_quiet (fail)
      go_wp2
      go_meet
      exact ⟨⟨_, rfl⟩, by rw [HC.out]; rfl⟩
    · have t1 : decide (t < 0) = false := decide_eq_false h0
      by_cases h1 : (m : Int) + (r : Int) ≤ t
      · have t2 : decide ((m : Int) + (r : Int) ≤ t) = true := decide_eq_true h1
        have HC : Hid (cd = false) := Lib.hid (by rw [HCD.out, decide_eq_false (show ¬ t < (m : Int) + r by omega), Bool.false_and, Bool.and_false])
        clear h0 h1 hno
        go_quiet (fail)
        go_wp2
        go_meet
        exact ⟨⟨_, rfl⟩, by rw [HC.out]; rfl⟩
      · have t2 : decide ((m : Int) + (r : Int) ≤ t) = false := decide_eq_false h1
        have HC : Hid (cd = (!Ar.dead S && Ar.may S t)) := Lib.hid (by rw [HCD.out, decide_eq_true (show t < (m : Int) + r by omega), decide_eq_true (show 0 ≤ t by omega)]; rfl)
        clear h0 h1 hno HCD HS
        generalize Ar.dead S = dd at hD HC
        generalize Ar.may S t = my at hY HC
        cases dd with
        | true =>
          have HC2 : Hid (cd = false) := Lib.hid HC.out
          clear HC
          go_quiet ((go_at_call 26; exact (hD _).out))
          go_wp2
          go_meet
          exact ⟨⟨_, rfl⟩, by rw [HC2.out]; rfl⟩
        | false =>
          cases my with
          | true =>
            have HC2 : Hid (cd = true) := Lib.hid HC.out
            clear HC
            go_quiet (first | (go_at_call 26; exact (hD _).out) | (go_at_call 32; exact (hY _).out))
            go_wp2
            go_meet
            exact ⟨⟨_, rfl⟩, by rw [HC2.out]; rfl⟩
          | false =>
            have HC2 : Hid (cd = false) := Lib.hid HC.out
            clear HC
            go_quiet (first | (go_at_call 26; exact (hD _).out) | (go_at_call 32; exact (hY _).out))
            go_wp2
            go_meet
            exact ⟨⟨_, rfl⟩, by rw [HC2.out]; rfl⟩
  case rest =>
    obtain ⟨⟨dq, rfl⟩, rfl⟩ := hcut
    clear hD hY hz0 hz1
    have HIFF : Hid ((0 ≤ t ∧ t < (m : Int) + r ∧ Ar.dead S = false ∧ Ar.may S t = true) ↔ cd = true) := Lib.hid (by
      rw [HCD.out, Bool.and_eq_true, Bool.and_eq_true, Bool.and_eq_true, decide_eq_true_eq, decide_eq_true_eq]
      cases Ar.dead S <;> simp)
    have HW1 := Lib.hid (show Fr w (w.drewN dq) (fun _ => False) from (Fr.refl w _).drewN dq)
    have HR1 := Lib.hid (H.out.frNone HW1.out)
    generalize w.drewN dq = w1 at HW1 HR1 ⊢
    clear hno z4
    cases cd with
    | false =>
      have HF : Hid (Ar.start S t node now = (0, S)) := Lib.hid (by rw [HS.out, if_neg fun e => Bool.false_ne_true (HIFF.out.1 e)])
      clear HS HIFF HCD
      go_wp2_with fail
      go_ret
      rw [HF.out]
      exact ⟨rfl, _, HR1.out, RefR.of_fr HW1.out⟩
    | true =>
      have HS2 : Hid (Ar.start S t node now = (((S.l.countP (fun x => decide (x.task = t)) : Nat) : Int) + 1, S2)) := Lib.hid (by rw [HS.out, if_pos (HIFF.out.2 rfl)])
      have hc := fun w => Lib.hid (rclamp_c now 0 1099511627776 (by decide) w)
      generalize At.clamp now 0 1099511627776 = cn at hc HSE
      clear HS HIFF HCD
      go_wp2_with fail
      have z4 : w1.cell? ⟨rt, 4, none⟩ = some (.slice A0 S.l.length cA) := HR1.out.blk.cell 4
      go_loopg [9, 10] S.l.length (fun gi nv iv wq => ∃ i : Nat, iv = .int .i64 (i : Int) ∧ i + gi = S.l.length ∧ nv = .int .i64 ((((S.l.take i).countP (fun x => decide (x.task = t)) : Nat) : Int) + 1) ∧ w1 = wq)
      case atStart => exact ⟨0, rfl, by omega, rfl, rfl⟩
      case round =>
        obtain ⟨i, rfl, hi, rfl, rfl⟩ := hrel
        have HI := Lib.hid hi
        by_cases hl2 : i < S.l.length
        · have s1 : decide ((i : Int) < (S.l.length : Int)) = true := decide_eq_true (by omega)
          have s1n : decide (i < S.l.length) = true := decide_eq_true hl2
          have HL2 := Lib.hid hl2
          obtain ⟨x, hx⟩ : ∃ x, S.l[i]? = some x := ⟨S.l[i], List.getElem?_eq_getElem _⟩
          obtain ⟨g, cap, hv, _, _, ⟨c0, c1, c2, c3, c4, c5⟩, _⟩ := HR1.out.at hx
          cases hv
          have ia : ((i : Int)).toNat = i := by omega
          have ip : (0 : Int) ≤ (i : Int) := by omega
          have iz : (i : Int) < (S.l.length : Int) := by omega
          have iw : i + 1 < 4000000000001 := by have := HN.out; omega
          have hcs := Ar.count_succ hx (fun x => decide (x.task = t))
          have hcl : (S.l.take i).countP (fun x => decide (x.task = t)) ≤ i := Nat.le_trans List.countP_le_length (by rw [List.length_take]; omega)
          generalize (S.l.take i).countP (fun x => decide (x.task = t)) = c at hcs hcl ⊢
          have cw : c + 1 + 1 < 4000000000001 := by have := HN.out; omega
          have HCS := Lib.hid hcs
          clear hcs hcl hx hl2 hi
          by_cases hq : x.task = t
          · have q1 : (x.task == t) = true := by rw [hq]; simp
            have HC2 : Hid ((S.l.take (i + 1)).countP (fun x => decide (x.task = t)) = c + 1) := Lib.hid (by rw [HCS.out, if_pos (decide_eq_true hq)])
            clear hq
            go_wp2_with fail
            clear iw cw
            go_roundg (S.l.length - (i + 1))
            case measure => have := HI.out; have := HL2.out; omega
            case rel => exact ⟨i + 1, by first | rfl | go_num, by have := HI.out; have := HL2.out; omega, by rw [HC2.out]; first | rfl | go_num, rfl⟩
          · have q1 : (x.task == t) = false := beq_eq_false_iff_ne.2 hq
            have HC2 : Hid ((S.l.take (i + 1)).countP (fun x => decide (x.task = t)) = c) := Lib.hid (by rw [HCS.out, if_neg (by rw [decide_eq_false hq]; exact Bool.false_ne_true)]; rfl)
            clear hq
            go_wp2_with fail
            clear iw cw
            go_roundg (S.l.length - (i + 1))
            case measure => have := HI.out; have := HL2.out; omega
            case rel => exact ⟨i + 1, by first | rfl | go_num, by have := HI.out; have := HL2.out; omega, by rw [HC2.out], rfl⟩
        · have s1 : decide ((i : Int) < (S.l.length : Int)) = false := decide_eq_false (by omega)
          have s1n : decide (i < S.l.length) = false := decide_eq_false hl2
          rw [List.take_of_length_le (by omega)]
          have hcl : S.l.countP (fun x => decide (x.task = t)) < 4000000000001 := Nat.lt_of_le_of_lt List.countP_le_length (by have := HN.out; omega)
          have HAD := Lib.hid (fun (num : Int) (w' : World) (v' : Value) => HR1.out.add (w' := w') (v' := v') ⟨t, num, node, cn, 0, false⟩)
          generalize S.l.countP (fun x => decide (x.task = t)) = c at HS2 HSE hcl ⊢
          have HLEN : Hid ((S.l.map rtryC).length = S.l.length) := Lib.hid (List.length_map ..)
          have HRO := Lib.hid (show w1.ownsRow B 48 6 (.slice A0 S.l.length cA) S.l.length (S.l.map rtryC).flatten from by have := HR1.out.row.own; rw [List.length_map] at this; exact this)
          have HK1 : Hid (∀ w', w1.grownBy w' (Value.slice A0 S.l.length cA).ownBlock → w'.cell? ⟨rt, 4, none⟩ = some (.slice A0 S.l.length cA) ∧ w'.frozen? ⟨rt, 4, none⟩ = false) := Lib.hid fun w' hG => by
            have hb := HR1.out.blk.fr (Fr.of_grown hG (S := fun q => (Value.slice A0 S.l.length cA).ownBlock = some q) fun q e => e) (fun e => HR1.out.ne rt e rfl)
            exact ⟨hb.cell 4, hb.frozen 4⟩
          have d0 : ∀ o, (w1.alloc o).cell? ⟨rt, 4, none⟩ = some (.slice A0 S.l.length cA) := fun o => Lib.cell?_alloc_some _ z4
          have HSZ : Hid (B ≤ w1.heap.size) := Lib.hid (Nat.le_trans HR1.out.lo (Nat.le_of_lt HR1.out.blk.lt))
          clear hl2 hi
          go_upto_region 9 with (fail)
          go_region_law ((first
            | (go_simp; go_at_call 31; refine (hc _).out.mono ?_; rintro _ _ ⟨rfl, rfl⟩)
            | (refine step_app_d (by rfl) (.tmp 61) (.tmp 68) 49 (by rfl) B 48 _ 6 48 Try.underlying49 rtry_info rfl (by decide) (.slice A0 S.l.length cA) S.l.length _ (by rfl) HRO.out [.int .i64 t, .int .i64 ((c : Int) + 1), .int .i64 node, .int .i64 cn, .int .i64 0, .bool false] 48 1 1 (by rfl) (by rfl) (by rfl) (by have := HN.out; unfold maxLen; omega) (by have := HN.out; omega) HSZ.out ?_; intro v' w' hO hG hN; obtain ⟨k1, k2⟩ := HK1.out w' hG.out; obtain ⟨A', c', rfl⟩ := own_slice hO.out)))
          all_goals
            obtain ⟨p1, p2⟩ := HAD.out ((c : Int) + 1) _ _ (by rw [HLEN.out]; exact hO.out) hG.out hN.out
            rw [← HSE.out] at p1
            have P1 := Lib.hid p1
            have P2 := Lib.hid ((RefR.of_fr HW1.out).trans p2)
            clear p1 p2 hO hG hN
            generalize w'.setCell ⟨rt, 4, none⟩ (.slice A' (S.l.length + 1) c') = w9 at P1 P2 ⊢
            go_wp2_with fail
            go_ret
            rw [HS2.out]
            exact ⟨rfl, _, P1.out, P2.out⟩
end Go.Proofs.Ytkcloaoaldklhaa
