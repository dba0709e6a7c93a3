/- heap.push. -/
import Derived.Test.YtgeeaddbapjikaaMg
import Derived.Test.YtgeeaddbapjikaaGoto
import Derived.Lib.QuietBelow
import Derived.Deep.RegionLaw
namespace Go.Proofs.Ytgeeaddbapjikaa
open Go.RowKit Go.Sort Go.Proofs.Ytgeeaddbapjikaa.St
set_option linter.unusedVariables false
set_option linter.unusedSimpArgs false
namespace Mg
theorem cur_info : (Try.prog.info? 60).map (fun i => (i.zero, i.size, i.bytes)) = some (some (.agg #[.int .i64 0, .slice none 0 0]), 2, 32) := by kernel_rfl
def pushFr (hb bx i : Nat) (av : Value) (u : Nat → Value) : Act := { tmps := #[.pointer (some ⟨hb, 0, none⟩), av, u 2, .pointer (some ⟨bx, 0, none⟩), .int .i64 (i : Int), u 5, u 6, u 7, u 8, u 9, u 10, u 11, u 12, u 13, u 14, u 15, u 16, u 17, u 18, u 19, u 20, u 21, u 22, u 23, u 24, u 25, u 26, u 27, u 28, u 29, u 30, u 31, u 32, u 33, u 34, u 35, u 36, u 37, u 38, u 39, u 40, u 41, u 42, u 43, u 44, u 45, u 46, u 47, u 48, u 49, u 50, u 51, u 52, u 53, u 54, u 55, u 56, u 57, u 58, u 59, u 60, u 61, u 62, u 63, u 64, u 65, u 66, u 67, u 68, u 69, u 70, u 71, u 72, u 73, u 74], defers := [] }
def natOf : Value → Nat
  | .int _ n => n.toNat
  | _ => 0
structure PushI (w : World) (base hb : Nat) (R : Nat → Rn) (v : Value) (L : List Cu) (c : Cu) (w' : World) (v' : Value) (L' : List Cu) (i : Nat) : Prop where
  at_ : HeapAt w' base hb R v' L'
  up : Hp.Up (lt R) L' i
  perm : L'.Perm (c :: L)
  lt : i < L'.length
  fr : FieldR w hb v w' v'
def PushJ (w : World) (base hb : Nat) (R : Nat → Rn) (v : Value) (L : List Cu) (c : Cu) (bx : Nat) (av : Value) : Nat → Act → World → Prop
  | 0, a, w' => ∃ (i : Nat) (v' : Value) (L' : List Cu), a = pushFr hb bx i av (fun k => a.tmps.getD k undef) ∧ Hid (PushI w base hb R v L c w' v' L' i)
  | _, _, _ => False
structure PushTo (w : World) (base hb : Nat) (R : Nat → Rn) (v : Value) (L : List Cu) (c : Cu) (w' : World) (v' : Value) (L' : List Cu) : Prop where
  at_ : HeapAt w' base hb R v' L'
  heap : Hp.HeapE (lt R) L'
  perm : L'.Perm (c :: L)
  fr : FieldR w hb v w' v'
theorem HeapAt.push {w w' : World} {base hb : Nat} {R : Nat → Rn} {v v' : Value} {L : List Cu} (h : HeapAt w base hb R v L) (c : Cu) (hc : okC R c)
    (hO : w'.ownsRow base 60 2 v' (L.length + 1) ((L.map (enc R)).flatten ++ [.int .i64 c.1, left R c])) (hG : w.grownBy w' v.ownBlock) (hN : v'.ownBlock = v.ownBlock ∨ ∃ g, v'.ownBlock = some g ∧ w.heap.size ≤ g) :
    HeapAt (w'.setCell ⟨hb, 0, none⟩ v') base hb R v' (L ++ [c]) ∧ FieldR w hb v (w'.setCell ⟨hb, 0, none⟩ v') v' := by
  have hf : Fr w w' (fun j => v.ownBlock = some j) := Fr.of_grown hG fun _ e => e
  have hf2 : Fr w' (w'.setCell ⟨hb, 0, none⟩ v') (fun j => j = hb) := (Fr.refl w' _).setCell _ _ fun _ => rfl
  have hne : v'.ownBlock ≠ some hb := by
    rcases hN with e | ⟨g, e, hg⟩
    · rw [e]; exact h.ne
    · rw [e]; intro e'; have := Option.some.inj e'; have := h.blk.lt; omega
  have hB := (h.blk.fr hf h.ne).set 0 v'
  refine ⟨⟨hB, ?_, h.base, fun x hx => ?_⟩, hN, (hf.mono (T := fun j => j = hb ∨ v.ownBlock = some j) fun _ _ e => .inr e).trans hf2 fun _ _ e => .inl e⟩
  · have h1 : Recs w' base 60 2 v' (L.map (enc R) ++ [enc R c]) := h.recs.app (enc R c) rfl (by rw [List.length_map]; exact hO)
    have h2 := h1.fr hf2 (fun j e e' => hne (e' ▸ e))
    simpa using h2
  · rcases List.mem_append.1 hx with hx | hx
    · exact h.ok x hx
    · rw [List.mem_singleton.1 hx]; exact hc
theorem ne_facts {p i : Nat} (h : p < i) : ¬ i * 2 = p * 2 ∧ ¬ i * 2 = p * 2 + 1 ∧ ¬ i * 2 + 1 = p * 2 ∧ ¬ p * 2 = i * 2 ∧ ¬ p * 2 = i * 2 + 1 ∧ ¬ p * 2 + 1 = i * 2 ∧ ¬ i = p := by omega
theorem lt_toNat {p i : Nat} (h : p < i) : (p : Int).toNat < (i : Int).toNat := by omega
theorem len_w {n : Nat} (h : n < 1048576) : wrap64 (n : Int) = (n : Int) := by unfold wrap64; omega
theorem len_ok {n : Nat} (h : n < 1048576) : n + 1 ≤ maxLen := by unfold maxLen; omega
theorem len_ok2 {n : Nat} (h : n < 1048576) : (n + 1) * 32 ≤ 140737488355328 := by omega
theorem up_facts (i : Nat) (h : ¬ i = 0) (h2 : i ≤ 1048576) : ∃ j p : Nat, (i : Int) - 1 = (j : Int) ∧ IntKind.i64.wrap ((i : Int) - 1) = (j : Int) ∧ wrap64 ((i : Int) - 1) = (j : Int) ∧ wrap64 (j : Int) = (j : Int) ∧ (j : Int).tdiv 2 = (p : Int) ∧ (j : Int) / 2 = (p : Int) ∧ wrap64 (p : Int) = (p : Int) ∧ p = (i - 1) / 2 ∧ p < i := by
  refine ⟨i - 1, (i - 1) / 2, by omega, by rw [IntKind.wrap_i64]; omega, by unfold wrap64; omega, by unfold wrap64; omega, ?_, by omega, by unfold wrap64; omega, rfl, by omega⟩
  rw [Int.tdiv_eq_ediv_of_nonneg (by omega)]; omega
set_option maxRecDepth 20000 in
set_option maxHeartbeats 4000000 in
theorem push_c (w : World) (base hb : Nat) (R : Nat → Rn) (v : Value) (L : List Cu) (c : Cu) (hA : HeapAt w base hb R v L) (hH : Hp.HeapE (lt R) L) (hR : RunsAt w base R) (hc : okC R c) (hn : L.length < 1048576) (hbs : base ≤ w.heap.size) :
    Calls Try.prog 22 #[.pointer (some ⟨hb, 0, none⟩), .agg #[.int .i64 c.1, left R c]] w fun e w' => e = .returned (.tuple #[]) ∧ ∃ v' L', PushTo w base hb R v L c w' v' L' := by
  have HA := Lib.hid hA
  have HH := Lib.hid hH
  have HR := Lib.hid hR
  have HC := Lib.hid hc
  have HN := Lib.hid hn
  have HBS := Lib.hid hbs
  have HX := Lib.hid (Blk.new w [.int .i64 c.1, left R c] 60)
  have HA1 := Lib.hid (hA.below ((Below.refl _ w).alloc (Nat.le_refl _) (.cells #[.int .i64 c.1, left R c] 60)))
  have HL0 := Lib.hid hA.lt
  have HF1 := Lib.hid ((FieldR.refl w hb v).alloc (.cells #[.int .i64 c.1, left R c] 60))
  have HS1 : Hid ((w.alloc (.cells #[.int .i64 c.1, left R c] 60)).heap.size = w.heap.size + 1) := Lib.hid (by simp)
  clear hA hH hR hc hn hbs
  go_enter Try.func22, Try.ntmps22
  go_wp2_with fail
  refine wp_scope_jumpH (PushJ w base hb R v L c w.heap.size (.agg #[.int .i64 c.1, left R c])) (fun _ a _ => natOf (a.tmps.getD 4 undef)) ?pass ?first
  case first =>
    intro hp
    have HP := Lib.hid hp
    clear hp
    change Hid (Blk (w.alloc (.cells #[.int .i64 c.1, left R c] 60)) w.heap.size [.int .i64 c.1, left R c] 60) at HX
    generalize hbx : w.heap.size = bx at *
    generalize w.alloc (.cells #[.int .i64 c.1, left R c] 60) = w1 at *
    generalize hav : Value.agg #[.int .i64 c.1, left R c] = av at *
    generalize hlf : left R c = lf at HX
    have HLF := Lib.hid hlf
    have HAV := Lib.hid hav
    clear hlf hav hbx
    obtain ⟨A, cc, hv⟩ := HA1.out.recs.slice
    rw [List.length_map] at hv
    subst hv
    have HO : Hid (w1.ownsRow base 60 2 (.slice A L.length cc) L.length (L.map (enc R)).flatten) := Lib.hid (by have := HA1.out.recs.own; rw [List.length_map] at this; exact this)
    have d2 : w1.drew.cell? ⟨hb, 0, none⟩ = some (.slice A L.length cc) := HA1.out.blk.cell 0
    have d3 : ∀ o, (w1.alloc o).cell? ⟨hb, 0, none⟩ = some (.slice A L.length cc) := fun o => Lib.cell?_alloc_some _ d2
    have x0 : w1.drew.cell? ⟨bx, 0, none⟩ = some (.int .i64 c.1) := HX.out.cell 0
    have x1 : w1.drew.cell? ⟨bx, 1, none⟩ = some lf := HX.out.cell 1
    have x2 : ∀ o, (w1.alloc o).cell? ⟨bx, 0, none⟩ = some (.int .i64 c.1) := fun o => Lib.cell?_alloc_some _ x0
    have x3 : ∀ o, (w1.alloc o).cell? ⟨bx, 1, none⟩ = some lf := fun o => Lib.cell?_alloc_some _ x1
    have HK1 : Hid (∀ w', w1.grownBy w' (Value.slice A L.length cc).ownBlock → w'.cell? ⟨hb, 0, none⟩ = some (.slice A L.length cc) ∧ w'.frozen? ⟨hb, 0, none⟩ = false) := Lib.hid fun w' hg => by
      have hB := HA1.out.blk.fr (Fr.of_grown hg (S := fun j => (Value.slice A L.length cc).ownBlock = some j) fun _ e => e) HA1.out.ne
      exact ⟨hB.cell 0, hB.frozen 0⟩
    have HW64 := Lib.hid (len_w HN.out)
    have HL1 := Lib.hid (len_ok HN.out)
    have HL2 := Lib.hid (len_ok2 HN.out)
    have HL3 : Hid (base ≤ w1.heap.size) := Lib.hid (by have := HS1.out; have := HBS.out; omega)
    have hone : ([Value.int .i64 c.1, lf] : List Value).all (·.oneCell') = true := by rw [← HLF.out]; rfl
    have HONE := Lib.hid hone
    clear hone
    go_upto_region 1 with (fail)
    go_region_law ((refine step_app_d (by rfl) (.tmp 10) (.tmp 12) 61 (by rfl) base 60 _ 2 32 Try.underlying61 cur_info rfl (by decide) (.slice A L.length cc) L.length _ (by rfl) HO.out [.int .i64 c.1, lf] 60 1 1 (by rfl) (by rfl) HONE.out HL1.out HL2.out HL3.out ?_; intro v' w' hO hG hN; obtain ⟨k1, k2⟩ := HK1.out w' hG.out; obtain ⟨A', c', rfl⟩ := own_slice hO.out))
    all_goals
      have hp := HA1.out.push c HC.out (by rw [HLF.out]; exact hO.out) hG.out hN.out
      have HQ := Lib.hid hp.1
      have HQF := Lib.hid (HF1.out.trans hp.2)
      clear hp hO hG hN k2 d2 d3 x0 x1 x2 x3 HK1
      have q0 := HQ.out.blk.cell 0
      go_wp2_with fail
      go_step3
      simp only [Exit.then]
      rename_i K1 hK1
      rw [HW64.out]
      refine hK1 _ _ ?_
      refine HP.out 0 _ _ _ ?_ rfl
      exact ⟨L.length, _, L ++ [c], by rfl, Lib.hid ⟨HQ.out, Hp.Up.push HH.out c, List.perm_append_singleton c L, by simp, HQF.out⟩⟩
  case pass =>
    clear HX HA1 HF1 HS1
    rintro l a w' hJ
    match l, hJ with
    | 0, hJ =>
      obtain ⟨i, v', L', ha, HI⟩ := hJ
      generalize (fun k => a.tmps.getD k undef) = u at ha
      subst ha
      unfold pushFr
      refine ⟨_, rfl, ?_⟩
      have hLL := HI.out.perm.length_eq
      have HLL : Hid (L'.length ≤ 1048576) := Lib.hid (by have := HN.out; simp at hLL; omega)
      have HIL := Lib.hid HI.out.lt
      have HRW : Hid (RunsAt w' base R) := Lib.hid (HR.out.below (HI.out.fr.below HA.out.base (fun k e => (HL0.out.2 k e).2) HBS.out))
      clear hLL
      generalize hav : Value.agg #[.int .i64 c.1, left R c] = av at *
      have HAV := Lib.hid hav
      clear hav
      by_cases hi0 : i = 0
      · subst hi0
        have HFin := Lib.hid (HI.out.up.done (.inl rfl))
        obtain ⟨A, cc, hv⟩ := HI.out.at_.recs.slice
        subst hv
        go_upto_region 4 with (fail)
        go_quiet (fail)
        go_wp2_with fail
        rw [jumpG_normal]
        go_end0
        exact ⟨rfl, _, L', HI.out.at_.below (below_drewN (Below.refl _ w') _), HFin.out, HI.out.perm, HI.out.fr.drewN _⟩
      · obtain ⟨x, hx⟩ : ∃ x, L'[i]? = some x := ⟨L'[i]'HIL.out, List.getElem?_eq_getElem _⟩
        obtain ⟨j, p, e1, e2, e3, e7, e4, e5, e6, hp, hpi⟩ := up_facts i hi0 (Nat.le_of_lt (Nat.lt_of_lt_of_le HIL.out HLL.out))
        obtain ⟨y, hy⟩ : ∃ y, L'[p]? = some y := ⟨L'[p]'(Nat.lt_trans hpi HIL.out), List.getElem?_eq_getElem _⟩
        obtain ⟨g, cap, hv, hg1, hg2, hcell, hfz⟩ := HI.out.at_.recs.some (by have := HIL.out; rw [List.length_map]; omega)
        rw [List.length_map] at hv
        subst hv
        have a0 : w'.cell? ⟨g, i * 2, none⟩ = some (.int .i64 x.1) := hcell i (enc R x) 0 _ (by simp [hx]) rfl
        have a1 : w'.cell? ⟨g, i * 2 + 1, none⟩ = some (left R x) := hcell i (enc R x) 1 _ (by simp [hx]) rfl
        have b0 : w'.cell? ⟨g, p * 2, none⟩ = some (.int .i64 y.1) := hcell p (enc R y) 0 _ (by simp [hy]) rfl
        have b1 : w'.cell? ⟨g, p * 2 + 1, none⟩ = some (left R y) := hcell p (enc R y) 1 _ (by simp [hy]) rfl
        have LS := fun d os => Lib.hid (Calls.regrown_of (w := w') (d := d) (os := os) (less_c R base (grow (redrawn w' d) os) (HRW.out.below ((below_regrown w' d os).mono (by have := HI.out.fr.fr.size; have := HBS.out; omega))) x y (HI.out.at_.ok x (List.mem_of_getElem? hx)) (HI.out.at_.ok y (List.mem_of_getElem? hy))))
        have HPI := Lib.hid hpi
        have HPP := Lib.hid hp
        have HXX := Lib.hid hx
        have HYY := Lib.hid hy
        have hh0 := HI.out.at_.blk.cell 0
        have hh1 := HI.out.at_.blk.cell 1
        have hi1 : decide (0 < i) = true := decide_eq_true (Nat.pos_of_ne_zero hi0)
        have hil : i < L'.length := HIL.out
        have hpl : p < L'.length := Nat.lt_trans hpi HIL.out
        clear hcell hx hy hp hpi hg1 hg2
        go_upto_region 4 with (fail)
        have hh0' := cell_regrown (hh0 : w'.cell? ⟨hb, 0, none⟩ = some (.slice (some ⟨g, 0, none⟩) L'.length cap))
        have hh1' := cell_regrown (hh1 : w'.cell? ⟨hb, 1, none⟩ = some (.func (.func 21) #[] #[]))
        have a0' := cell_regrown a0
        have a1' := cell_regrown a1
        have b0' := cell_regrown b0
        have b1' := cell_regrown b1
        clear a0 a1 b0 b1 hh0 hh1
        generalize hlx : left R x = lx at *
        generalize hly : left R y = ly at *
        generalize hql : lt R x y = q at *
        have HLX := Lib.hid hlx
        have HLY := Lib.hid hly
        have HQL := Lib.hid hql
        clear hlx hly hql
        refine wp_region_quiet_below (by kernel_rfl) (by kernel_rfl) ?_
        repeat (quiet_step (first | with_reducible exact (LS _ _).out))
        refine wpQuiet_nil ?_
        intro _ hw''
        obtain ⟨⟨dq, osq⟩, hw3⟩ := hw''
        subst hw3
        have HB2 := Lib.hid (below_regrown w' dq osq)
        have HI2 : Hid (PushI w base hb R v L c (grow (redrawn w' dq) osq) (.slice (some ⟨g, 0, none⟩) L'.length cap) L' i) := Lib.hid ⟨HI.out.at_.below HB2.out, HI.out.up, HI.out.perm, HI.out.lt, HI.out.fr.below2 HB2.out⟩
        generalize hw2 : grow (redrawn w' { d := dq, os := osq : Regrown }.d) { d := dq, os := osq : Regrown }.os = w2
        change grow (redrawn w' dq) osq = w2 at hw2
        rw [hw2] at HI2 HB2
        clear hw2 hh0' hh1' a0' a1' b0' b1' LS HRW HI hfz
        cases q
        · have HFin := Lib.hid (HI2.out.up.done (.inr (by rw [← HPP.out]; intro u v hu hv; rw [HXX.out] at hu; rw [HYY.out] at hv; cases hu; cases hv; exact HQL.out)))
          go_wp2_with fail
          rw [jumpG_normal]
          go_end0
          exact ⟨rfl, _, L', HI2.out.at_, HFin.out, HI2.out.perm, HI2.out.fr⟩
        · obtain ⟨g', cap', hv, _, _, hcell, hfz⟩ := HI2.out.at_.recs.some (by have := HIL.out; rw [List.length_map]; omega)
          rw [List.length_map] at hv
          cases hv
          have a0 : w2.drew.cell? ⟨g, i * 2, none⟩ = some (.int .i64 x.1) := hcell i (enc R x) 0 _ (by simp [HXX.out]) rfl
          have a1 : w2.drew.cell? ⟨g, i * 2 + 1, none⟩ = some lx := (hcell i (enc R x) 1 _ (by simp [HXX.out]) rfl).trans (by rw [HLX.out])
          have b0 : w2.drew.cell? ⟨g, p * 2, none⟩ = some (.int .i64 y.1) := hcell p (enc R y) 0 _ (by simp [HYY.out]) rfl
          have b1 : w2.drew.cell? ⟨g, p * 2 + 1, none⟩ = some ly := (hcell p (enc R y) 1 _ (by simp [HYY.out]) rfl).trans (by rw [HLY.out])
          have hh0 : w2.drew.cell? ⟨hb, 0, none⟩ = some (.slice (some ⟨g, 0, none⟩) L'.length cap) := HI2.out.at_.blk.cell 0
          have fz : ∀ j, w2.drew.frozen? ⟨g, j, none⟩ = false := hfz
          clear hcell hfz
          obtain ⟨Ax, nx, cx, rfl⟩ : ∃ A n c, lx = .slice A n c := ⟨_, _, _, HLX.out.symm⟩
          obtain ⟨Ay, ny, cy, rfl⟩ : ∃ A n c, ly = .slice A n c := ⟨_, _, _, HLY.out.symm⟩
          have a0' : w2.cell? ⟨g, i * 2, none⟩ = some (.int .i64 x.1) := a0
          have a1' : w2.cell? ⟨g, i * 2 + 1, none⟩ = some (.slice Ax nx cx) := a1
          have b0' : w2.cell? ⟨g, p * 2, none⟩ = some (.int .i64 y.1) := b0
          have b1' : w2.cell? ⟨g, p * 2 + 1, none⟩ = some (.slice Ay ny cy) := b1
          have fz' : ∀ j, w2.frozen? ⟨g, j, none⟩ = false := fz
          obtain ⟨n1, n2, n3, n4, n5, n6, n7⟩ := ne_facts HPI.out
          go_upto_region 5 with (fail)
          go_region
          have hs := HI2.out.at_.swap HXX.out HYY.out
          have hfs := fr_swap w2 g (i * 2) (i * 2 + 1) (p * 2) (p * 2 + 1) (.int .i64 y.1) (left R y) (.int .i64 x.1) (left R x)
          rw [HLX.out, HLY.out] at hs hfs
          have hu := Hp.Up.step (swo R) HI2.out.up (Nat.pos_of_ne_zero hi0) HXX.out (by rw [← HPP.out]; exact HYY.out) HQL.out
          rw [← HPP.out] at hu
          have HQ : Hid (PushI w base hb R v L c ((((w2.setCell ⟨g, i * 2, none⟩ (.int .i64 y.1)).setCell ⟨g, i * 2 + 1, none⟩ (.slice Ay ny cy)).setCell ⟨g, p * 2, none⟩ (.int .i64 x.1)).setCell ⟨g, p * 2 + 1, none⟩ (.slice Ax nx cx)).drew (.slice (some ⟨g, 0, none⟩) L'.length cap) (Hp.sw L' i p x y) p) :=
            Lib.hid ⟨hs.below (below_drewN (Below.refl _ _) 1), hu, (Hp.sw_perm HXX.out HYY.out).trans HI2.out.perm, by rw [Hp.sw_len]; exact hpl, (HI2.out.fr.trans ⟨.inl rfl, hfs.mono fun j _ e => .inr (by rw [e]; rfl)⟩).drewN 1⟩
          clear hs hfs hu a0 a1 b0 b1 a0' a1' b0' b1' fz fz' hh0 n1 n2 n3 n4 n5 n6 n7
          generalize ((((w2.setCell ⟨g, i * 2, none⟩ (.int .i64 y.1)).setCell ⟨g, i * 2 + 1, none⟩ (.slice Ay ny cy)).setCell ⟨g, p * 2, none⟩ (.int .i64 x.1)).setCell ⟨g, p * 2 + 1, none⟩ (.slice Ax nx cx)).drew = w4 at HQ ⊢
          go_wp2_with fail
          go_step3
          change PushJ w base hb R v L c w.heap.size av 0 _ _ ∧ _
          refine ⟨⟨p, _, Hp.sw L' i p x y, by rfl, HQ⟩, ?_⟩
          simp only [natOf]
          exact (lt_toNat HPI.out)
end Mg
end Go.Proofs.Ytgeeaddbapjikaa
