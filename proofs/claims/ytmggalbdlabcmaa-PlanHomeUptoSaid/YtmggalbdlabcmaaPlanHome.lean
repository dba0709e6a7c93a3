/- PlanHome: a worker that stands where a task's data is takes one whose data is there: the walk. -/
import Derived.Test.YtmggalbdlabcmaaPlanSpk
import Derived.Test.YtmggalbdlabcmaaView
import Derived.Deep.CutBlock
namespace Go.Proofs.Ytmggalbdlabcmaa
open Go.RowKit Go.Lib St Fl
set_option linter.unusedVariables false
set_option linter.unusedSimpArgs false
/-- the law's tasks -/
noncomputable def tsk (xs : List (List (Int × Int))) : List (Int × List Spot) := xs.mapIdx fun j ps => ((j : Int), ps.map spotOf)
theorem tsk_len (xs : List (List (Int × Int))) : (tsk xs).length = xs.length := by simp [tsk]
theorem tsk_next {xs : List (List (Int × Int))} {i : Nat} {ps : List (Int × Int)} (h : xs[i]? = some ps) : tsk (xs.take (i + 1)) = tsk (xs.take i) ++ [((i : Int), ps.map spotOf)] := by
  have hi := (List.getElem?_eq_some_iff.1 h).1
  unfold tsk
  rw [List.take_add_one, h]
  simp only [Option.toList_some, List.mapIdx_append, List.mapIdx_cons, List.mapIdx_nil, Nat.zero_add]
  rw [List.length_take, Nat.min_eq_left (Nat.le_of_lt hi)]
theorem InAt.grownOf {w w' : World} {base b2 s2 n2 : Nat} {e2 : TypeId} {v v2 : Value} {us : List Value} {ts : List (Int × List Spot)} {x2 : List Value} (h : InAt w base v us ts) (h2 : w.ownsRow b2 e2 s2 v2 n2 x2) (hG : w.grownBy w' v2.ownBlock) (n1 : e2 ≠ 29) (n2 : e2 ≠ 31) : InAt w' base v us ts :=
  ⟨h.ul, own_grown h.row hG (own_types h2 h.row n1), fun i u t hu ht => ⟨own_grown (h.hold i u t hu ht).1 hG (own_types h2 (h.hold i u t hu ht).1 n2), (h.hold i u t hu ht).2⟩⟩
def pairC (p : Int × Int) : List Value := [.int .i64 p.1, .int .i64 p.2]
def pairsC (l : List (Int × Int)) : List Value := (l.map pairC).flatten
theorem pairsC_len (l : List (Int × Int)) : (pairsC l).length = l.length * 2 := by
  unfold pairsC
  rw [flatten_len (sz := 2) (fun r hr => by obtain ⟨t, _, rfl⟩ := List.mem_map.1 hr; rfl), List.length_map]
theorem pairsC_get {l : List (Int × Int)} {i : Nat} {p : Int × Int} (h : l[i]? = some p) (j : Nat) (hj : j < 2) : (pairsC l)[i * 2 + j]? = (pairC p)[j]? := by
  unfold pairsC
  exact flatten_get (sz := 2) (fun r hr => by obtain ⟨t, _, rfl⟩ := List.mem_map.1 hr; rfl) (by rw [List.getElem?_map, h]; rfl) hj
theorem pairsC_app (l m : List (Int × Int)) : pairsC (l ++ m) = pairsC l ++ pairsC m := by unfold pairsC; rw [List.map_append, List.flatten_append]
theorem rpairs_lit {w : World} {B : Nat} {x y : Int} {t : TypeId} (h : Blk w B [.int .i64 x, .int .i64 y] t) (h1 : -1000 ≤ x ∧ x ≤ 1000) (h2 : -1000 ≤ y ∧ y ≤ 1000) : RPairs w [.slice (some ⟨B, 0, none⟩) 1 1] [(x, y)] :=
  ⟨some ⟨B, 0, none⟩, 1, 1, rfl, rfl, Nat.le_refl _, by omega, by unfold maxLen; omega, (fun e => by cases e), fun _ => ⟨B, 0, rfl, h.lt, fun j p hp => by
    have hj : j < 1 := (List.getElem?_eq_some_iff.1 hp).1
    obtain rfl : j = 0 := by omega
    obtain rfl := Option.some.inj hp
    exact ⟨[.int .i64 x, .int .i64 y], rfl, fun i c hc => by rw [show (0 : Nat) + (0 * 2 + i) = i by omega, h.cell i]; exact hc, rfl, ⟨by dsimp only; omega, by dsimp only; omega⟩, by dsimp only; omega, by dsimp only; omega⟩⟩⟩
theorem pick_none {ds : List Int} (h : ∀ d ∈ ds, d = -1) : pickP ds = if ds.length = 0 then -1 else 0 := by
  cases ds with
  | nil => rfl
  | cons d ds =>
    rw [if_neg (by simp)]
    unfold pickP
    have key : ∀ (l : List (Nat × Int)) (y : Nat × Int), (∀ x ∈ l, x.2 = -1) → l.foldl chStep (some y) = some y := fun l => by
      induction l with
      | nil => intro y _; rfl
      | cons a l ih =>
        intro y ha
        rw [List.foldl_cons]
        have : chStep (some y) a = some y := by
          unfold chStep
          dsimp only
          rw [if_neg (by rw [ha a (by simp)]; omega)]
        rw [this]
        exact ih y fun x hx => ha x (by simp [hx])
    have : choose (enum (d :: ds)) = some (0, d) := by
      unfold choose enum
      rw [List.mapIdx_cons, List.foldl_cons]
      refine key _ (0, d) fun x hx => ?_
      obtain ⟨q, hq⟩ := List.mem_iff_getElem?.1 hx
      rw [List.getElem?_mapIdx] at hq
      obtain ⟨d2, hd, rfl⟩ := Option.map_eq_some_iff.1 hq
      exact h d2 (List.mem_cons_of_mem _ (List.mem_of_getElem? hd))
    rw [this]
    rfl
theorem dS_self {x y : Int} (h1 : -1000 ≤ x ∧ x ≤ 1000) (h2 : -1000 ≤ y ∧ y ≤ 1000) : dS (spotOf (x, y)) (spotOf (x, y)) = 0 := by
  show distI (pl (fw x)) (pl (fw y)) (pl (fw x)) (pl (fw y)) = 0
  rw [pl_fw h1.1 h1.2, pl_fw h2.1 h2.2]
  simp [distI]
/-- where a worker stands on a task's data, the one that is chosen has data there -/
theorem home_pick {xs : List (List (Int × Int))} {x y : Int} (hm : (x, y) ∈ xs.flatten) (h1 : -1000 ≤ x ∧ x ≤ 1000) (h2 : -1000 ≤ y ∧ y ≤ 1000) :
    ∃ (k : Nat) (t : Int × List Spot), pickP (farsS (spotOf (x, y)) (tsk xs)) = (k : Int) ∧ (tsk xs)[k]? = some t ∧ farS (spotOf (x, y)) t.2 = 0 := by
  obtain ⟨ps, hps, hxy⟩ := List.mem_flatten.1 hm
  obtain ⟨j, hj⟩ := List.mem_iff_getElem?.1 hps
  have ht : (tsk xs)[j]? = some ((j : Int), ps.map spotOf) := by unfold tsk; rw [List.getElem?_mapIdx, hj]; rfl
  have hf : farS (spotOf (x, y)) (ps.map spotOf) = 0 := by
    have hb := bestF_is ((ps.map spotOf).map (dS (spotOf (x, y))))
    have := hb.le 0 (List.mem_map.2 ⟨spotOf (x, y), List.mem_map.2 ⟨(x, y), hxy, rfl⟩, dS_self h1 h2⟩) (Int.le_refl _)
    unfold farS
    omega
  have hfj : (farsS (spotOf (x, y)) (tsk xs))[j]? = some 0 := by unfold farsS; rw [List.getElem?_map, ht]; show some (farS (spotOf (x, y)) (ps.map spotOf)) = _; rw [hf]
  unfold pickP
  rcases choose_is (enum (farsS (spotOf (x, y)) (tsk xs))) with ⟨_, h4⟩ | ⟨q, h3, h4⟩
  · exfalso
    have := congrArg List.length h4
    have hl := (List.getElem?_eq_some_iff.1 hfj).1
    simp [enum] at this
    rw [this] at hl
    cases hl
  · rw [h3]
    have hle := h4.le (j, 0) (List.mem_of_getElem? (i := j) (by unfold enum; rw [List.getElem?_mapIdx, hfj]; rfl)) (Int.le_refl _)
    obtain ⟨k, hk⟩ := List.mem_iff_getElem?.1 h4.mem
    unfold enum at hk
    rw [List.getElem?_mapIdx] at hk
    obtain ⟨d, hd, rfl⟩ := Option.map_eq_some_iff.1 hk
    unfold farsS at hd
    rw [List.getElem?_map] at hd
    obtain ⟨t, ht2, rfl⟩ := Option.map_eq_some_iff.1 hd
    dsimp only at hle
    exact ⟨k, t, rfl, ht2, by omega⟩
theorem vw_pairs {w : World} {a : Option Addr} {n c : Nat} {ps : List (Int × Int)} (h : RPairs w [.slice a n c] ps) : Vw w 2 a n c (pairsC ps) := by
  obtain ⟨hn, hnc, hcb, hcm, hget⟩ := rsl_get (en := fun p : Int × Int => [.int .i64 p.1, .int .i64 p.2]) h
  refine ⟨hnc, by rw [pairsC_len, hn], fun h0 => ?_⟩
  obtain ⟨p0, hp0⟩ : ∃ p, ps[0]? = some p := ⟨ps[0]'(by omega), List.getElem?_eq_getElem _⟩
  obtain ⟨b, off, rfl, hb, _, _⟩ := hget 0 p0 hp0
  refine ⟨b, off, rfl, hb, fun j u hu => ?_⟩
  have hj := (List.getElem?_eq_some_iff.1 hu).1
  rw [pairsC_len] at hj
  obtain ⟨p, hp⟩ : ∃ p, ps[j / 2]? = some p := ⟨ps[j / 2]'(by omega), List.getElem?_eq_getElem _⟩
  obtain ⟨b2, off2, e, _, _, hc⟩ := hget (j / 2) p hp
  cases e
  have := pairsC_get hp (j % 2) (by omega)
  rw [show j / 2 * 2 + j % 2 = j by omega, hu] at this
  rw [← hc (j % 2) u this.symm]
  congr 2
  omega
theorem pair_info : (Try.prog.info? 32).map (fun i => (i.zero, i.size, i.bytes)) = some (some (.agg #[.int .i64 0, .int .i64 0]), 2, 16) := by kernel_rfl
theorem bulk_pairss (xs : List (List (Int × Int))) : xs.length + xs.flatten.length ≤ bulkL (bulkL fun p : Int × Int => vbulk [.int .i64 p.1, .int .i64 p.2]) xs := by
  unfold bulkL
  have : xs.length + xs.flatten.length ≤ (xs.map fun ps => (ps.map fun p : Int × Int => vbulk [.int .i64 p.1, .int .i64 p.2]).sum + 1).sum := by
    induction xs with
    | nil => simp
    | cons ps xs ih =>
      have h1 : ps.length ≤ (ps.map fun p : Int × Int => vbulk [.int .i64 p.1, .int .i64 p.2]).sum := by
        clear ih
        induction ps with
        | nil => simp
        | cons p ps ih2 =>
          rw [List.map_cons, List.sum_cons, List.length_cons, show vbulk [Value.int .i64 p.1, .int .i64 p.2] = 2 from rfl]
          omega
      rw [List.map_cons, List.sum_cons, List.length_cons, List.flatten_cons, List.length_append]
      omega
  omega
set_option maxRecDepth 20000 in
set_option maxHeartbeats 8000000 in
theorem planHome_walk (W : World) (sa : Option Addr) (n sc : Nat) (xs : List (List (Int × Int))) (hR : RPairss W [.slice sa n sc] xs) (hbk : bulkL (bulkL fun p : Int × Int => vbulk [.int .i64 p.1, .int .i64 p.2]) xs ≤ 1048576) (which : Int) (ww : (Lit.int .i64 which).wf = true) :
    Calls Try.prog 3 #[.slice sa n sc, .int .i64 which] W fun e w' => e = .returned (.bool true) ∧ Below W.heap.size W w' := by
  have hbl := bulk_pairss xs
  have HBK : Hid (xs.length + xs.flatten.length ≤ 1048576) := Lib.hid (by omega)
  have HRR := Lib.hid hR
  obtain ⟨a', n', c', hv, hn, hnc, hcb, hcm, hno, hel⟩ := hR
  cases hv
  have HN := Lib.hid hn
  have HEL := Lib.hid hel
  clear hbl hbk hn hnc hcb hcm hno hel
  go_enter Try.func3, Try.ntmps3
  go_wp2_with fail
  refine (plSpeaks_any W).mono ?_
  rintro _ w1 ⟨rfl, hb1⟩
  have HB1 := Lib.hid hb1
  clear hb1
  go_wp2_with fail
  go_loopg [5, 6, 7] n (fun g v5 v6 v7 wr => ∃ (i : Nat) (us : List Value), v7 = .int .i64 (i : Int) ∧ i + g = n ∧ Hid (InAt wr W.heap.size v5 us (tsk (xs.take i))) ∧ Hid (wr.ownsRow W.heap.size 32 2 v6 (xs.take i).flatten.length (pairsC (xs.take i).flatten)) ∧ Hid (Below W.heap.size W wr))
  case atStart => exact ⟨0, [], rfl, by omega, Lib.hid (InAt.nil _ _), Lib.hid (World.ownsRow_nil _ _ _ _), HB1⟩
  case round =>
    obtain ⟨i, us, rfl, hi, HIN, HAL, HB⟩ := hrel
    have HI := Lib.hid hi
    clear HB1
    by_cases hlt : i < n
    · have t1 : decide ((i : Int) < (n : Int)) = true := decide_eq_true (by omega)
      have t1n : decide (i < n) = true := decide_eq_true hlt
      have HLT := Lib.hid hlt
      obtain ⟨ps, hp⟩ : ∃ ps, xs[i]? = some ps := ⟨xs[i]'(by rw [HN.out]; exact hlt), List.getElem?_eq_getElem _⟩
      obtain ⟨b, off, rfl, hbW, hel⟩ := HEL.out (by omega)
      obtain ⟨es, _, hes, hRP⟩ := hel i ps hp
      obtain ⟨pa, pn, pc, rfl⟩ : ∃ pa pn pc, es = [.slice pa pn pc] := by
        obtain ⟨a, n, c, e, _⟩ := hRP
        exact ⟨a, n, c, e⟩
      have hpl : ps.length = pn := by
        obtain ⟨a, n, c, e, h1, _⟩ := hRP
        cases e
        exact h1
      have k0 : wr.cell? ⟨b, off + i, none⟩ = some (.slice pa pn pc) := by
        have := hes 0 _ rfl
        rw [Nat.mul_one, Nat.add_zero] at this
        exact (HB.out.cell (p := ⟨b, off + i, none⟩) hbW).trans this
      have HRP := Lib.hid hRP
      have HPL := Lib.hid hpl
      have htf : (xs.take (i + 1)).flatten = (xs.take i).flatten ++ ps := by rw [List.take_add_one, hp, List.flatten_append]; simp
      have HTF := Lib.hid htf
      have HTN := Lib.hid (tsk_next hp)
      have hpsl : ps.length ≤ 1048576 := by
        have h1 := HBK.out
        have h2 : ps.length ≤ xs.flatten.length := by
          have : (xs.take (i + 1)).flatten.length ≤ xs.flatten.length := by
            conv => rhs; rw [← List.take_append_drop (i + 1) xs, List.flatten_append, List.length_append]
            omega
          rw [htf, List.length_append] at this
          omega
        omega
      have hfl : (xs.take i).flatten.length ≤ 1048576 := by
        have h1 := HBK.out
        have : (xs.take i).flatten.length ≤ xs.flatten.length := by
          conv => rhs; rw [← List.take_append_drop i xs, List.flatten_append, List.length_append]
          omega
        omega
      have htl : (tsk (xs.take i)).length = i := by rw [tsk_len, List.length_take, HN.out]; omega
      have HTL := Lib.hid htl
      have HPSL := Lib.hid hpsl
      have HFL := Lib.hid hfl
      have HIB : Hid (i ≤ 1048576) := Lib.hid (by have := HBK.out; have := HN.out; omega)
      have kw : i + 1 < 8796093022209 := by have := HIB.out; omega
      have HKW := Lib.hid kw
      have ia : ((i : Int)).toNat = i := by omega
      have ip : (0 : Int) ≤ (i : Int) := by omega
      have iz : (i : Int) < (n : Int) := by omega
      clear hp hel hes hRP hpl htf hpsl hfl htl kw hlt hi
      go_wp2_with fail
      refine (points_c ps pa pn pc wr (HRP.out.below HB.out (Nat.le_refl _))).mono ?_
      rintro _ w2 ⟨u, rfl, hb2, hou⟩
      have HU : Hid (w2.ownsRow W.heap.size 31 1 u ps.length ((ps.map spotOf).map spotC)) := Lib.hid (by rw [List.map_map]; exact own_mono hou HB.out.size)
      have HB2 := Lib.hid (below_then HB.out HB.out.size hb2)
      have HIN2 := Lib.hid (HIN.out.below hb2 (Nat.le_refl _))
      have HAL2 := Lib.hid (own_below HAL.out hb2 (Nat.le_refl _))
      have HRW := Lib.hid (show w2.ownsRow W.heap.size 29 2 _ i (List.zipWith taskRow us (tsk (xs.take i))).flatten from HTL.out ▸ HIN2.out.row)
      have j0 : w2.cell? ⟨b, off + i, none⟩ = some (.slice pa pn pc) := (hb2.cell (p := ⟨b, off + i, none⟩) (Nat.lt_of_lt_of_le hbW HB.out.size)).trans k0
      obtain ⟨qu, cu, rfl⟩ := own_slice HU.out
      clear hb2 hou k0 HIN HAL HB
      have HONE : Hid (∀ u ∈ pairsC ps, u.oneCell' = true) := Lib.hid fun u hu => by
        unfold pairsC at hu
        obtain ⟨r, hr, hur⟩ := List.mem_flatten.1 hu
        obtain ⟨p, _, rfl⟩ := List.mem_map.1 hr
        rcases List.mem_cons.1 hur with rfl | hur
        · rfl
        · rw [List.mem_singleton.1 hur]; rfl
      have kw := HKW.out
      go_wp2_with (first
        | (at_builtin
           refine wpList_app rfl _ _ 24 rfl W.heap.size 29 _ 2 32 Try.underlying24 ptask_info rfl (by decide) _ i _ rfl HRW.out [.int .i64 (i : Int), .slice qu ps.length cu] _ 1 1 rfl rfl rfl (by have := HIB.out; unfold maxLen; omega) (by have := HIB.out; omega) HB2.out.size ?_
           intro v' w3 hO hG hN
           have HB3 := Lib.hid (below_row HRW.out hG.out HB2.out (Nat.le_refl _) HB2.out.size)
           have j1 : w3.cell? ⟨b, off + i, none⟩ = some (.slice pa pn pc) := (HB3.out.cell (p := ⟨b, off + i, none⟩) hbW).trans ((HB2.out.cell (p := ⟨b, off + i, none⟩) hbW).symm.trans j0)
           have HAL3 := Lib.hid (own_grown HAL2.out hG.out (own_types HRW.out HAL2.out (by decide)))
           have HV3 := Lib.hid ((vw_pairs HRP.out).below HB3.out (Nat.le_refl _))
           have HIN3 := Lib.hid (HIN2.out.push (t := ((i : Int), ps.map spotOf)) (by rw [List.length_map]; exact HU.out) (by rw [List.length_map]; have := HPSL.out; omega) (by rw [HTL.out]; exact hO.out) hG.out)
           rw [← HTN.out] at HIN3
           clear hO hG hN j0)
        | (at_builtin
           refine wpList_appv rfl _ _ 25 rfl W.heap.size 32 _ 2 16 Try.underlying25 pair_info rfl (by decide) _ (xs.take i).flatten.length _ rfl HAL3.out pa pn pc (pairsC ps) rfl HV3.out HONE.out (by have := HFL.out; have := HPSL.out; have := HPL.out; unfold maxLen; omega) (by have := HFL.out; have := HPSL.out; have := HPL.out; omega) HB3.out.size ?_
           intro v'' w4 hO hG hN
           have HB4 := Lib.hid (below_row HAL3.out hG.out HB3.out (Nat.le_refl _) HB3.out.size)
           have HIN4 := Lib.hid (HIN3.out.grownOf HAL3.out hG.out (by decide) (by decide))))
      have HO4 : Hid (w4.ownsRow W.heap.size 32 2 v'' (xs.take (i + 1)).flatten.length (pairsC (xs.take (i + 1)).flatten)) := Lib.hid (by
        rw [HTF.out, List.length_append, HPL.out, pairsC_app]
        exact hO.out)
      clear hO hG hN HIN3 HAL3 HV3 HIN2 HAL2 HRW HU
      go_roundg (n - (i + 1))
      case measure => have := HI.out; have := HLT.out; omega
      case rel => exact ⟨i + 1, us ++ [.slice qu ps.length cu], by first | rfl | go_num, by have := HI.out; have := HLT.out; omega, HIN4, HO4, HB4⟩
    · have t1 : decide ((i : Int) < (n : Int)) = false := decide_eq_false (by omega)
      have t1n : decide (i < n) = false := decide_eq_false hlt
      have htk : xs.take i = xs := List.take_of_length_le (by have := HN.out; omega)
      rw [htk] at HIN HAL
      obtain ⟨pi, ci, hvi, hta⟩ := HIN.out.tasks (by rw [tsk_len]; have := HBK.out; omega)
      rw [tsk_len, HN.out] at hvi hta
      obtain ⟨qa, ca, hva⟩ := own_slice HAL.out
      have HTA := Lib.hid hta
      obtain ⟨m, hm⟩ : ∃ m, m = xs.flatten.length := ⟨_, rfl⟩
      rw [← hm] at hva HAL
      have HMM := Lib.hid hm
      have hm1 : m ≤ 1048576 := by have := HBK.out; omega
      have HM1 := Lib.hid hm1
      have HNB : Hid (n ≤ 1048576) := Lib.hid (by have := HBK.out; have := HN.out; omega)
      clear hlt hi htk hta hm1 HIN hm
      subst hvi hva
      by_cases h0 : m = 0
      · have n0 : ((m : Int) == 0) = true := by rw [h0]; rfl
        have n0n : (m == 0) = true := by rw [h0]; rfl
        have hp := pick_c pi n ci (tsk xs) (0, 0) wr HTA.out
        rw [pick_none (fun d hd => by
          obtain ⟨t, ht, rfl⟩ := List.mem_map.1 hd
          obtain ⟨j, hj⟩ := List.mem_iff_getElem?.1 ht
          unfold tsk at hj
          rw [List.getElem?_mapIdx] at hj
          obtain ⟨ps, hps, rfl⟩ := Option.map_eq_some_iff.1 hj
          have hnil : ps = [] := by
            have h1 := HMM.out
            rw [h0] at h1
            have := List.eq_nil_of_length_eq_zero h1.symm
            exact List.flatten_eq_nil_iff.1 this ps (List.mem_of_getElem? hps)
          rw [hnil]; rfl)] at hp
        rw [show (farsS (0, 0) (tsk xs)).length = n by unfold farsS; rw [List.length_map, tsk_len, HN.out]] at hp
        have HP := Lib.hid hp
        clear h0 hp
        by_cases hn0 : n = 0
        · have a1 : decide ((1 : Int) < (n : Int)) = false := decide_eq_false (by omega)
          have a2 : decide ((n : Int) < 1) = true := decide_eq_true (by omega)
          have HP2 := HP.out
          rw [if_pos hn0] at HP2
          replace HP2 := Lib.hid HP2
          clear HP
          subst hn0
          go_wp2_with fail
          refine HP2.out.mono ?_
          rintro _ w5 ⟨rfl, hb5⟩
          have HB5 := Lib.hid (below_then HB.out HB.out.size hb5)
          clear hb5
          go_wp2_with fail
          go_ret
          exact ⟨rfl, HB5.out⟩
        · have HP2 := HP.out
          rw [if_neg hn0] at HP2
          replace HP2 := Lib.hid HP2
          clear HP
          have HNZ := Lib.hid hn0
          clear hn0
          go_wp2_with fail
          refine HP2.out.mono ?_
          rintro _ w5 ⟨rfl, hb5⟩
          have HB5 := Lib.hid (below_then HB.out HB.out.size hb5)
          clear hb5
          go_wp2_with fail
          all_goals
            go_ret
            first
              | exact ⟨rfl, HB5.out⟩
              | exact ⟨ret_bool (by rw [show (n : Int) = 1 by have := HNZ.out; omega]; rfl), HB5.out⟩
      · have n0 : ((m : Int) == 0) = false := beq_eq_false_iff_ne.2 (by omega)
        have n0n : (m == 0) = false := beq_eq_false_iff_ne.2 h0
        obtain ⟨wh, hwh⟩ : ∃ wh : Nat, (wh : Int) = max which 0 := ⟨(max which 0).toNat, by omega⟩
        have HWH := Lib.hid hwh
        have HM0 := Lib.hid h0
        clear hwh h0
        go_upto_if 46 with (fail)
        go_cut [1] (fun v wc => wr = wc ∧ v = .int .i64 (wh : Int))
        case first =>
          go_wp2
          all_goals go_meet
          all_goals exact ⟨rfl, val_int (by have := HWH.out; omega)⟩
        case rest =>
          obtain ⟨rfl, rfl⟩ := hcut
          clear HWH
          have HQ : Hid (wh % m < m) := Lib.hid (Nat.mod_lt _ (by have := HM0.out; omega))
          have hmod : ((wh : Int)).tmod (m : Int) = ((wh % m : Nat) : Int) := by rw [Int.tmod_eq_emod_of_nonneg (Int.natCast_nonneg _)]; rfl
          generalize hq : wh % m = q at HQ hmod
          clear hq
          obtain ⟨⟨hx, hy⟩, hp⟩ : ∃ p, xs.flatten[q]? = some p := ⟨xs.flatten[q]'(by rw [← HMM.out]; exact HQ.out), List.getElem?_eq_getElem _⟩
          have HP := Lib.hid (List.mem_of_getElem? hp)
          obtain ⟨ga, ca', e, _, hgl, hC⟩ := own_some HAL.out (by have := HM0.out; omega)
          cases e
          have k0 : wr.cell? ⟨ga, q * 2, none⟩ = some (.int .i64 hx) := (hC.get (j := q * 2 + 0) (pairsC_get hp 0 (by decide))).1
          have k1 : wr.cell? ⟨ga, q * 2 + 1, none⟩ = some (.int .i64 hy) := (hC.get (j := q * 2 + 1) (pairsC_get hp 1 (by decide))).1
          have qa : ((q : Int)).toNat = q := by omega
          have qp : (0 : Int) ≤ (q : Int) := by omega
          have qz : (q : Int) < (m : Int) := by have := HQ.out; omega
          have HB6 := Lib.hid (HB.out.alloc HB.out.size (.cells #[.int .i64 hx, .int .i64 hy] 32))
          have HT6 := Lib.hid (HTA.out.below ((Below.refl wr.heap.size wr).alloc (Nat.le_refl _) (.cells #[.int .i64 hx, .int .i64 hy] 32)) (Nat.le_refl _))
          have HK6 := Lib.hid (Blk.new wr [.int .i64 hx, .int .i64 hy] 32)
          have hne : ((m : Int) == 0) = false := n0
          clear hC hp
          go_upto_region 15 with (fail)
          generalize hw6 : wr.alloc (.cells #[.int .i64 hx, .int .i64 hy] 32) = w6
          have HB6 : Hid (Below W.heap.size W w6) := hw6 ▸ HB6
          have HT6 : Hid (TasksAt w6 pi n ci (tsk xs)) := hw6 ▸ HT6
          have HK6 : Hid (Blk w6 wr.heap.size [.int .i64 hx, .int .i64 hy] 32) := Lib.hid (by rw [← hw6]; exact HK6.out)
          generalize wr.heap.size = gh at HK6 ⊢
          have z : ∀ j, w6.cell? ⟨gh, j, none⟩ = [Value.int .i64 hx, .int .i64 hy][j]? := fun j => HK6.out.cell j
          clear hw6 k0 k1 HAL
          by_cases c1 : hx < -1000
          · have d1 : decide (hx < -1000) = true := decide_eq_true c1
            clear c1
            go_wp2_with fail
            go_ret
            exact ⟨rfl, HB6.out⟩
          have d1 : decide (hx < -1000) = false := decide_eq_false c1
          by_cases c2 : 1000 < hx
          · have d2 : decide (1000 < hx) = true := decide_eq_true c2
            clear c1 c2
            go_wp2_with fail
            go_ret
            exact ⟨rfl, HB6.out⟩
          have d2 : decide (1000 < hx) = false := decide_eq_false c2
          by_cases c3 : hy < -1000
          · have d3 : decide (hy < -1000) = true := decide_eq_true c3
            clear c1 c2 c3
            go_wp2_with fail
            go_ret
            exact ⟨rfl, HB6.out⟩
          have d3 : decide (hy < -1000) = false := decide_eq_false c3
          by_cases c4 : 1000 < hy
          · have d4 : decide (1000 < hy) = true := decide_eq_true c4
            clear c1 c2 c3 c4
            go_wp2_with fail
            go_ret
            exact ⟨rfl, HB6.out⟩
          have d4 : decide (1000 < hy) = false := decide_eq_false c4
          have hX : -1000 ≤ hx ∧ hx ≤ 1000 := by omega
          have hY : -1000 ≤ hy ∧ hy ≤ 1000 := by omega
          have HXY := Lib.hid (And.intro hX hY)
          obtain ⟨kk, ⟨tid, hs⟩, hpk, hkk, hfr⟩ := home_pick HP.out hX hY
          have HPK := Lib.hid hpk
          have HKK := Lib.hid hkk
          have HFR := Lib.hid hfr
          have hkn := (List.getElem?_eq_some_iff.1 hkk).1
          rw [tsk_len, HN.out] at hkn
          have HKN := Lib.hid hkn
          clear c1 c2 c3 c4 hX hY hpk hkk hfr hkn
          have HL7 := Lib.hid (Blk.new w6 [.int .i64 hx, .int .i64 hy] 32)
          have HB7 := Lib.hid ((Below.refl w6.heap.size w6).alloc (Nat.le_refl _) (.cells #[.int .i64 hx, .int .i64 hy] 32))
          go_upto_region 17 with (fail)
          go_wp2_with fail
          refine (points_c [(hx, hy)] (some ⟨w6.heap.size, 0, none⟩) 1 1 _ (rpairs_lit HL7.out HXY.out.1 HXY.out.2)).mono ?_
          rintro _ w8 ⟨v8, rfl, hb8, ho8⟩
          obtain ⟨g8, c8, rfl, _, hl8, hC8⟩ := own_some ho8 (Nat.zero_lt_one)
          have e0 : w8.cell? ⟨g8, 0, none⟩ = some (.complex .f64 (fw hx) (fw hy)) := (hC8.get (j := 0) rfl).1
          have hb9 := below_then HB7.out HB7.out.size hb8
          have HB8 := Lib.hid (below_then HB6.out HB6.out.size hb9)
          have HT8 := Lib.hid (HT6.out.below hb9 (Nat.le_refl _))
          have hpc := pick_c pi n ci (tsk xs) (spotOf (hx, hy)) w8 HT8.out
          rw [HPK.out] at hpc
          have HPC : Hid (Calls Try.prog 8 #[.slice pi n ci, .complex .f64 (fw hx) (fw hy)] w8 fun e w' => e = .returned (.int .i64 (kk : Int)) ∧ Below w8.heap.size w8 w') := Lib.hid hpc
          clear ho8 hC8 hl8 hb8 hb9 hpc HL7 HB7 z
          simp only [List.length_cons, List.length_nil, Nat.zero_add]
          go_wp2_with fail
          refine HPC.out.mono ?_
          rintro _ w9 ⟨rfl, hb9⟩
          have HB9 := Lib.hid (below_then HB8.out HB8.out.size hb9)
          obtain ⟨gt, q9, m9, k9, rfl, hgt, t0, t1', hh9⟩ := (HT8.out.below hb9 (Nat.le_refl _)).at' kk _ HKK.out
          have hfc := far_c tid q9 m9 k9 hs (spotOf (hx, hy)) w9 hh9
          rw [HFR.out] at hfc
          have HFC : Hid (Calls Try.prog 9 #[.agg #[.int .i64 tid, .slice q9 m9 k9], .complex .f64 (fw hx) (fw hy)] w9 fun e w' => e = .returned (.int .i64 0) ∧ Below w9.heap.size w9 w') := Lib.hid hfc
          have ka : ((kk : Int)).toNat = kk := by omega
          have kp : (0 : Int) ≤ (kk : Int) := by omega
          have kz : (kk : Int) < (n : Int) := by have := HKN.out; omega
          have kd : decide ((0 : Int) ≤ (kk : Int)) = true := decide_eq_true kp
          have kd2 : decide ((kk : Int) < (n : Int)) = true := decide_eq_true kz
          clear hb9 hh9 hfc e0
          dsimp only at t0 t1'
          go_wp2_with fail
          refine HFC.out.mono ?_
          rintro _ w10 ⟨rfl, hb10⟩
          have HB10 := Lib.hid (below_then HB9.out HB9.out.size hb10)
          clear hb10
          go_wp2_with fail
          go_ret
          exact ⟨rfl, HB10.out⟩
end Go.Proofs.Ytmggalbdlabcmaa
