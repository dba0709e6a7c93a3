/- slices.Collect of merge.All: merge.Merge. -/
import Derived.Test.YtgeeaddbapjikaaRangeT
import Derived.Maps.OwnIn
namespace Go.Proofs.Ytgeeaddbapjikaa
open Go.RowKit Go.Shelf Go.Proofs.Ytgeeaddbapjikaa.St
attribute [local go_sem] Oper.semAt_some
set_option linter.unusedVariables false
set_option linter.unusedSimpArgs false
namespace Mg
def prc (x : Pr) : List Value := [.string x.1, .string x.2]
theorem own_at {w : World} {base : Nat} {e : TypeId} {size n : Nat} {v : Value} {xs : List Value} (h : w.ownsRow base e size v n xs) {k : Nat} (hk : v.ownBlock = some k) : ∃ cur, w.heap[k]? = some (.cells cur e (0, 0)) := by
  rcases h.2 with ⟨rfl, _⟩ | ⟨g, cap, cur, rfl, _, hg, _⟩
  · cases hk
  · cases hk; exact ⟨cur, hg⟩
theorem own_ne {w : World} {base : Nat} {e t : TypeId} {size n b : Nat} {v : Value} {xs cs : List Value} (h : w.ownsRow base e size v n xs) (hb : Blk w b cs t) (ht : t ≠ e) : v.ownBlock ≠ some b := fun e' => by
  obtain ⟨cur, hc⟩ := own_at h e'
  have := hb.symm.trans hc
  simp at this
  exact ht this.2
theorem not_mine_of {w : World} {j : Nat} {cur : Array Value} {t : TypeId} {r : Nat × Nat} (h : w.heap[j]? = some (.cells cur t r)) (h1 : t ≠ 60) (h2 : t ≠ 63) : ¬ Mine w j := by
  rintro ⟨c, t', r', hm, ht⟩
  rw [h] at hm
  cases hm
  rcases ht with e | e
  · exact h1 e
  · exact h2 e
theorem offO {w : World} {j base B : Nat} {cur : Array Value} {t : TypeId} {r : Nat × Nat} (h : w.heap[j]? = some (.cells cur t r)) (h1 : t ≠ 60) (h2 : t ≠ 63) : ¬ ((base ≤ j ∧ Mine w j) ∨ (B ≤ j ∧ ∃ o : Obj, w.heap[j]? = some o ∧ o.isCells = false)) := by
  rintro (⟨_, hm⟩ | ⟨_, o, ho, hc⟩)
  · exact not_mine_of h h1 h2 hm
  · rw [h] at ho; cases ho; cases hc
structure ColI (w : World) (Bs : Nat) (pre : List Pr) (W : World) : Prop where
  box : ∃ v, Blk W Bs [v] 29 ∧ Recs W w.heap.size 33 2 v (pre.map prc)
  below : Below w.heap.size w W
theorem StepO.below {base B : Nat} {W W' : World} (h : StepO base B W W') (hB : base ≤ B) (hb : base ≤ W.heap.size) : Below base W W' := Fr.below h (fun j _ e => e.elim (fun q => q.1) (fun q => Nat.le_trans hB q.1)) hb
theorem ColI.abides (w : World) (Bs : Nat) {B : Nat} (hB : w.heap.size ≤ B) : AbidesO w.heap.size B (ColI w Bs) := fun pre W W' h hs => by
  obtain ⟨v, hb, hr⟩ := h.box
  refine ⟨⟨v, hb.fr hs (offO hb (by decide) (by decide)), hr.fr hs (fun k e => by obtain ⟨cur, hc⟩ := own_at hr.own e; exact offO hc (by decide) (by decide))⟩, h.below.trans (hs.below hB h.below.size)⟩
theorem ColI.step {w W w2 : World} {Bs : Nat} {pre : List Pr} {v v' : Value} {x : Pr} {o : Obj} (h : ColI w Bs pre W) (hBs : w.heap.size ≤ Bs) (hb : Blk W Bs [v] 29) (hr : Recs W w.heap.size 33 2 v (pre.map prc))
    (hO : w2.ownsRow w.heap.size 33 2 v' (pre.length + 1) ((pre.map prc).flatten ++ prc x)) (hG : (W.alloc o).grownBy w2 v.ownBlock) :
    KeepsO W (w2.setCell ⟨Bs, 0, none⟩ v') ∧ Keeps w.heap.size W (w2.setCell ⟨Bs, 0, none⟩ v') ∧ ColI w Bs (pre ++ [x]) (w2.setCell ⟨Bs, 0, none⟩ v') := by
  have hf1 : Fr W (W.alloc o) (fun _ => False) := (Fr.refl W _).alloc o
  have hf2 : Fr (W.alloc o) w2 (fun j => v.ownBlock = some j) := Fr.of_grown hG fun _ e => e
  have hf3 : Fr w2 (w2.setCell ⟨Bs, 0, none⟩ v') (fun j => j = Bs) := (Fr.refl w2 _).setCell _ _ fun _ => rfl
  have hf : Fr W (w2.setCell ⟨Bs, 0, none⟩ v') (fun j => v.ownBlock = some j ∨ j = Bs) :=
    ((hf1.mono (T := fun j => v.ownBlock = some j ∨ j = Bs) fun _ _ e => e.elim).trans (hf2.mono (T := fun j => v.ownBlock = some j ∨ j = Bs) fun _ _ e => .inl e) fun _ _ e => e).trans (hf3.mono (T := fun j => v.ownBlock = some j ∨ j = Bs) fun _ _ e => .inr e) fun _ _ e => e
  have hne := own_ne hr.own hb (by decide)
  have hb2 : Blk w2 Bs [v] 29 := (hb.alloc o).fr hf2 hne
  have hr2 : Recs w2 w.heap.size 33 2 v' ((pre ++ [x]).map prc) := by
    rw [List.map_append]
    exact hr.app (prc x) rfl (by rw [List.length_map]; exact hO)
  have hne2 := own_ne hr2.own hb2 (by decide)
  have hcell : ∀ j, (v.ownBlock = some j ∨ j = Bs) → ∃ cur t, W.heap[j]? = some (.cells cur t (0, 0)) ∧ t ≠ 60 ∧ t ≠ 63 ∧ w.heap.size ≤ j := fun j e => by
    rcases e with e | rfl
    · obtain ⟨cur, hc⟩ := own_at hr.own e
      exact ⟨cur, _, hc, by decide, by decide, (hr.own.lt j e).1⟩
    · exact ⟨_, _, hb, by decide, by decide, hBs⟩
  refine ⟨⟨hf.size, fun j ob hj ho => ?_⟩, hf.mono fun j _ e => ?_, ⟨v', hb2.set 0 v', hr2.fr hf3 fun k e e' => hne2 (e' ▸ e)⟩, h.below.trans (hf.below (fun j _ e => ?_) h.below.size)⟩
  · refine (hf.block j (Array.getElem?_eq_some_iff.1 hj).1 (fun e => ?_)).trans hj
    obtain ⟨cur, t, hc, _⟩ := hcell j e
    rw [hj] at hc; cases hc; cases ho
  · obtain ⟨cur, t, hc, h1, h2, h3⟩ := hcell j e
    exact ⟨h3, not_mine_of hc h1 h2⟩
  · obtain ⟨cur, t, hc, h1, h2, h3⟩ := hcell j e
    exact h3
theorem all1_gives (n : Nat) (Bn base : Nat) (A : Option Addr) (N Nc : Nat) (R : Nat → Rn) (hN : N ≤ 1048576) (w : World) (hBn : w.cell? ⟨Bn, 0, none⟩ = some (.slice A N Nc)) (hS : RunSl w base A N R) (hR : RunsAt w base R) (hb : base ≤ w.heap.size) :
    Gives n Try.prog 20 #[.pointer (some ⟨Bn, 0, none⟩)] base (fun xs => xs = out R N (todo R (fun _ => 0) N) fun _ => 0) (fun pre => pre <+: out R N (todo R (fun _ => 0) N) fun _ => 0) (out R N (todo R (fun _ => 0) N) fun _ => 0).length w := fun l J Jx W hB hJ hJx hY h0 =>
  all1_c n l Bn base A N Nc R J Jx hJ hJx hN W hY ((hB.cell (p := ⟨Bn, 0, none⟩) (block_lt_of_cell hBn)).trans hBn) (hS.below (hB.mono hb)) (hR.below (hB.mono hb)) (Nat.le_trans hb hB.size) h0
theorem pair_info : (Try.prog.info? 33).map (fun i => (i.zero, i.size, i.bytes)) = some (some (.agg #[.string ⟨#[]⟩, .string ⟨#[]⟩]), 2, 32) := by kernel_rfl
set_option maxRecDepth 20000 in
set_option maxHeartbeats 4000000 in
theorem appendSeq_c (W : World) (gf : FuncId) (lb : Array Value) (O : List Pr) (Sp : List Pr → Prop) (hO : O.length ≤ 1048576) (eg : ∀ args w, (callFunc gf args).run Try.prog w = .ok (.enter gf args) w)
    (hG : ∀ n w, Below W.heap.size W w → Gives n Try.prog gf lb W.heap.size (fun xs => xs = O) Sp O.length w) :
    Calls Try.prog 28 #[.slice none 0 0, .func (.func gf) #[] lb] W fun e w' => ∃ v, e = .returned v ∧ Recs w' W.heap.size 33 2 v (O.map prc) ∧ Below W.heap.size W w' := by
  have HG := Lib.hid hG
  have HO := Lib.hid hO
  have HB0 := Lib.hid (Blk.new W [.slice none 0 0] 29)
  have HBW := Lib.hid ((Below.refl W.heap.size W).alloc (Nat.le_refl _) (.cells #[.slice none 0 0] 29))
  have HI0 : Hid (ColI W W.heap.size [] (W.alloc (.cells #[.slice none 0 0] 29))) := Lib.hid ⟨⟨_, HB0.out, Recs.nil _ _ _ _⟩, HBW.out⟩
  clear hG hO HB0
  refine (callsIn_wide (n := 5)).1 ?_
  refine callsIn_of_wp_marks Try.func28 rfl trivial ?_ rfl
  simp only [Try.ntmps28, List.size_toArray, List.length_cons, List.length_nil, Nat.reduceAdd, Nat.reduceSub, Array.replicate_succ, Array.replicate_zero, List.push_toArray, List.append_toArray, List.nil_append, List.cons_append]
  gi_wp2
  refine rangeT (gf := gf) (lb := lb) (S := fun xs => xs = O) (Sp := Sp) (N := O.length) (base := W.heap.size) rfl eg HBW.out.size (HG.out _ _ HBW.out) rfl (ColI W W.heap.size) (fun _ _ _ => False) (ColI.abides _ _ HBW.out.size) (fun _ _ _ _ h _ => h) HI0.out
    (fun x a' W' => ∃ Bx, Blk W' Bx (prc x) 33 ∧ a' = { tmps := #[.slice none 0 0, .func (.func gf) #[] lb, .pointer (some ⟨W.heap.size, 0, none⟩), undef, .slice none 0 0, .pointer (some ⟨Bx, 0, none⟩), .func (.func gf) #[] lb, pcells x, undef, undef, undef, undef, undef], defers := [] })
    (fun x a' _ A B h hs => by
      obtain ⟨Bx, hx, ha⟩ := h
      exact ⟨Bx, hx.fr hs (offO hx (by decide) (by decide)), ha⟩) ?assign ?body ?done (fun _ _ _ _ _ _ h _ => h.elim)
  case assign =>
    intro l pre x Wa K hi hl hK
    obtain ⟨x1, x2⟩ := x
    have HX := Lib.hid (Blk.new Wa [.string x1, .string x2] 33)
    have HBA : Hid (Below Wa.heap.size Wa (Wa.alloc (.cells #[.string x1, .string x2] 33))) := Lib.hid ((Below.refl _ Wa).alloc (Nat.le_refl _) _)
    have HII := Lib.hid (ColI.abides _ _ (Nat.le_refl _) _ _ _ hi (StepO.new HBA.out))
    have HKK := Lib.hid hK
    clear hi hl hK
    simp only [pcells]
    gi_wp2
    refine HKK.out _ _ ⟨HBA.out.size, fun j o h _ => (HBA.out.block j (Array.getElem?_eq_some_iff.1 h).1).trans h⟩ ⟨HBA.out.os, HBA.out.tape, HBA.out.output, HBA.out.size, fun j hj _ => HBA.out.block j hj⟩ HII.out ⟨Wa.heap.size, HX.out, rfl⟩
  case body =>
    rintro l pre x a' Wb hi ⟨Bx, hx, rfl⟩ hlt
    obtain ⟨x1, x2⟩ := x
    obtain ⟨v, hb, hr⟩ := hi.box
    have HI := Lib.hid hi
    have HB := Lib.hid hb
    have HR := Lib.hid hr
    have HLT := Lib.hid hlt
    have x0 : Wb.cell? ⟨Bx, 0, none⟩ = some (.string x1) := hx.cell 0
    have x1' : Wb.cell? ⟨Bx, 1, none⟩ = some (.string x2) := hx.cell 1
    have b0 : Wb.cell? ⟨W.heap.size, 0, none⟩ = some v := hb.cell 0
    obtain ⟨i0, hii, hz0, hz1, hz2⟩ := info_parts pair_info
    have HOW : Hid ((Wb.alloc (.cells #[.string x1, .string x2] 33)).ownsRow W.heap.size 33 2 v pre.length (pre.map prc).flatten) := Lib.hid (by have := (hr.alloc (.cells #[.string x1, .string x2] 33)).own; rw [List.length_map] at this; exact this)
    have HK1 : Hid (∀ w', (Wb.alloc (.cells #[.string x1, .string x2] 33)).grownBy w' v.ownBlock → w'.cell? ⟨W.heap.size, 0, none⟩ = some v ∧ w'.frozen? ⟨W.heap.size, 0, none⟩ = false) := Lib.hid fun w' hg => by
      have hB := (HB.out.alloc (.cells #[.string x1, .string x2] 33)).fr (Fr.of_grown hg (S := fun j => v.ownBlock = some j) fun _ e => e) (own_ne HR.out.own HB.out (by decide))
      exact ⟨hB.cell 0, hB.frozen 0⟩
    have HL1 : Hid (pre.length + 1 ≤ maxLen) := Lib.hid (by unfold maxLen; have := HO.out; omega)
    have HL2 : Hid ((pre.length + 1) * 32 ≤ 140737488355328) := Lib.hid (by have := HO.out; omega)
    have HL3 : Hid (W.heap.size ≤ (Wb.alloc (.cells #[.string x1, .string x2] 33)).heap.size) := Lib.hid (Nat.le_trans hi.below.size (by simp))
    clear hi hb hr hx hlt
    gi_wp2_with (gi_at_builtin; go_loud (refine wpListIn_append_own_at _ rfl _ _ 29 rfl W.heap.size 33 i0 _ 2 32 Try.underlying29 hii hz0 hz1 hz2 rfl (by decide) _ _ _ rfl HOW.out ⟨Wb.heap.size, 0, none⟩ 1 1 [.string x1, .string x2] rfl rfl (cell_news Wb [.string x1, .string x2] 33) (by simp [Value.oneCell']) HL1.out HL2.out HL3.out ?_); intro v' w' hO' hG' _ _; obtain ⟨k1, k2⟩ := HK1.out w' hG'; have HO2 := Lib.hid hO'; have HG2 := Lib.hid hG'; obtain ⟨A', c', rfl⟩ := own_slice hO'; clear hO' hG')
    have hs := HI.out.step (x := (x1, x2)) (Nat.le_refl _) HB.out HR.out HO2.out HG2.out
    exact hs
  case done =>
    rintro D ys Wd hD rfl hi hK
    obtain ⟨v, hb, hr⟩ := hi.box
    have b0 : Wd.cell? ⟨W.heap.size, 0, none⟩ = some v := hb.cell 0
    have HR := Lib.hid hr
    have HBL := Lib.hid hi.below
    have HK := Lib.hid hK
    clear hi hb hr hK
    gi_wp2
    refine ⟨by simp, .inl ⟨_, _, rfl, run_takeDeferred HK.out, ?_⟩⟩
    have hst : StepO W.heap.size W.heap.size Wd (Wd.putObj D (.deferred none)) := StepO.put _ (Nat.le_trans HBW.out.size hD) HK.out rfl
    exact ⟨_, results_tmp rfl _ _ _, v, rfl, HR.out.fr hst (fun k e => by obtain ⟨cur, hc⟩ := own_at HR.out.own e; exact offO hc (by decide) (by decide)), HBL.out.trans (hst.below (Nat.le_refl _) HBL.out.size)⟩
theorem collect_c (W : World) (gf : FuncId) (lb : Array Value) (O : List Pr) (Sp : List Pr → Prop) (hO : O.length ≤ 1048576) (eg : ∀ args w, (callFunc gf args).run Try.prog w = .ok (.enter gf args) w)
    (hG : ∀ n w, Below W.heap.size W w → Gives n Try.prog gf lb W.heap.size (fun xs => xs = O) Sp O.length w) :
    Calls Try.prog 19 #[.func (.func gf) #[] lb] W fun e w' => ∃ v, e = .returned v ∧ Recs w' W.heap.size 33 2 v (O.map prc) ∧ Below W.heap.size W w' := by
  have HC := Lib.hid (appendSeq_c W gf lb O Sp hO eg hG)
  clear hG hO
  go_enter Try.func19, Try.ntmps19
  go_wp2_with fail
  refine HC.out.mono ?_
  rintro e w' ⟨v, rfl, hr, hb⟩
  have HR := Lib.hid hr
  have HB := Lib.hid hb
  clear hr hb HC
  go_wp2_with fail
  go_ret
  exact ⟨v, rfl, HR.out, HB.out⟩
theorem all_c (W : World) (A : Option Addr) (N Nc : Nat) : Calls Try.prog 13 #[.slice A N Nc] W fun e w' => e = .returned (.func (.func 20) #[] #[.pointer (some ⟨W.heap.size, 0, none⟩)]) ∧ w' = W.alloc (.cells #[.slice A N Nc] 22) := by
  go_enter Try.func13, Try.ntmps13
  go_wp2
  go_ret
  exact ⟨rfl, rfl⟩
theorem RunSl.mono {w : World} {base base' : Nat} {A : Option Addr} {N : Nat} {R : Nat → Rn} (h : RunSl w base A N R) (hb : base ≤ base') : RunSl w base' A N R := by
  refine ⟨fun i hi => ?_⟩
  obtain ⟨g, off, hA, hg, h1⟩ := h.el i hi
  exact ⟨g, off, hA, Nat.lt_of_lt_of_le hg hb, h1⟩
theorem RunsAt.mono {w : World} {base base' : Nat} {R : Nat → Rn} (h : RunsAt w base R) (hb : base ≤ base') : RunsAt w base' R :=
  ⟨fun i hi => Nat.lt_of_lt_of_le (h.lt i hi) hb, h.cells, h.cap⟩
theorem Recs.mono {w : World} {base base' : Nat} {e : TypeId} {sz : Nat} {v : Value} {rs : List (List Value)} (h : Recs w base' e sz v rs) (hb : base ≤ base') : Recs w base e sz v rs := ⟨own_mono h.own hb, h.len⟩
theorem merge_c (W : World) (base : Nat) (A : Option Addr) (N Nc : Nat) (R : Nat → Rn) (hN : N ≤ 1048576) (hO : (out R N (todo R (fun _ => 0) N) fun _ => 0).length ≤ 1048576) (hS : RunSl W base A N R) (hR : RunsAt W base R) (hb : base ≤ W.heap.size) :
    Calls Try.prog 11 #[.slice A N Nc] W fun e w' => ∃ v, e = .returned v ∧ Recs w' W.heap.size 33 2 v ((out R N (todo R (fun _ => 0) N) fun _ => 0).map prc) ∧ Below W.heap.size W w' := by
  have hB1 : Below W.heap.size W (W.alloc (.cells #[.slice A N Nc] 22)) := (Below.refl _ W).alloc (Nat.le_refl _) _
  have hX1 : Blk (W.alloc (.cells #[.slice A N Nc] 22)) W.heap.size [.slice A N Nc] 22 := Blk.new W _ _
  have HC := Lib.hid (collect_c (W.alloc (.cells #[.slice A N Nc] 22)) 20 #[.pointer (some ⟨W.heap.size, 0, none⟩)] (out R N (todo R (fun _ => 0) N) fun _ => 0) (fun pre => pre <+: out R N (todo R (fun _ => 0) N) fun _ => 0) hO
    (enters_of Try.func20 (by kernel_rfl) rfl)
    (fun n w hB => by
      have hb2 : base ≤ (W.alloc (.cells #[.slice A N Nc] 22)).heap.size := Nat.le_trans hb hB1.size
      exact all1_gives n W.heap.size _ A N Nc R hN w ((hB.cell (p := ⟨W.heap.size, 0, none⟩) hX1.lt).trans (hX1.cell 0)) (((hS.below (hB1.mono hb)).below (hB.mono hb2)).mono hb2) (((hR.below (hB1.mono hb)).below (hB.mono hb2)).mono hb2) hB.size))
  have HB1 := Lib.hid hB1
  clear hB1 hX1 hS hR hb hO hN
  go_enter Try.func11, Try.ntmps11
  go_wp2_with fail
  refine (all_c W A N Nc).mono ?_
  rintro e w1 ⟨rfl, rfl⟩
  go_wp2_with fail
  refine HC.out.mono ?_
  rintro e w' ⟨v, rfl, hr, hb⟩
  have HR := Lib.hid (Mg.Recs.mono hr HB1.out.size)
  have HB := Lib.hid (HB1.out.trans (hb.mono HB1.out.size))
  clear hr hb HC
  go_wp2_with fail
  go_ret
  exact ⟨v, rfl, HR.out, HB.out⟩
end Mg
end Go.Proofs.Ytgeeaddbapjikaa
