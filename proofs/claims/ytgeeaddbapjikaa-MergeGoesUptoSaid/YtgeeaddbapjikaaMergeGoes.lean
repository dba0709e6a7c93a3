/- The walk of MergeGoes. -/
import Derived.Test.YtgeeaddbapjikaaMergeMerges
namespace Go.Proofs.Ytgeeaddbapjikaa
open Go.RowKit Go.Shelf Go.Sort Go.Proofs.Ytgeeaddbapjikaa.St
attribute [local go_sem] Oper.semAt_some
set_option linter.unusedVariables false
set_option linter.unusedSimpArgs false
namespace Mg
/-- between two rounds: what has come lies in the box b9; whatever lay below base lies as it lay; b0 holds v0 -/
structure GoI (w : World) (base rb b9 b0 : Nat) (v0 : Value) (pre : List Pr) (W : World) : Prop where
  box : ∃ v, Blk W b9 [v] 29 ∧ Recs W rb 33 2 v (pre.map prc)
  other : Blk W b0 [v0] 29
  below : Below base w W
theorem GoI.abides {w : World} {base rb b9 b0 B : Nat} {v0 : Value} (hB : base ≤ B) (hb : base ≤ w.heap.size) : AbidesO base B (GoI w base rb b9 b0 v0) := fun pre W W' h hs => by
  obtain ⟨v, hb', hr⟩ := h.box
  exact ⟨⟨v, hb'.fr hs (offO hb' (by decide) (by decide)), hr.fr hs (fun k e => by obtain ⟨cur, hc⟩ := own_at hr.own e; exact offO hc (by decide) (by decide))⟩, h.other.fr hs (offO h.other (by decide) (by decide)), h.below.trans (hs.below hB (Nat.le_trans hb h.below.size))⟩
theorem GoI.step {w W w2 : World} {base rb b9 b0 : Nat} {v0 : Value} {pre : List Pr} {v v' : Value} {x : Pr} {o : Obj} (h : GoI w base rb b9 b0 v0 pre W) (hrb : base ≤ rb) (h9 : base ≤ b9) (hne0 : b0 ≠ b9) (hbw : base ≤ w.heap.size) (hb : Blk W b9 [v] 29) (hr : Recs W rb 33 2 v (pre.map prc))
    (hO : w2.ownsRow rb 33 2 v' (pre.length + 1) ((pre.map prc).flatten ++ prc x)) (hG : (W.alloc o).grownBy w2 v.ownBlock) :
    KeepsO W (w2.setCell ⟨b9, 0, none⟩ v') ∧ Keeps base W (w2.setCell ⟨b9, 0, none⟩ v') ∧ GoI w base rb b9 b0 v0 (pre ++ [x]) (w2.setCell ⟨b9, 0, none⟩ v') ∧ Fr W (w2.setCell ⟨b9, 0, none⟩ v') (fun j => v.ownBlock = some j ∨ j = b9) := by
  have hf1 : Fr W (W.alloc o) (fun _ => False) := (Fr.refl W _).alloc o
  have hf2 : Fr (W.alloc o) w2 (fun j => v.ownBlock = some j) := Fr.of_grown hG fun _ e => e
  have hf3 : Fr w2 (w2.setCell ⟨b9, 0, none⟩ v') (fun j => j = b9) := (Fr.refl w2 _).setCell _ _ fun _ => rfl
  have hf : Fr W (w2.setCell ⟨b9, 0, none⟩ v') (fun j => v.ownBlock = some j ∨ j = b9) :=
    ((hf1.mono (T := fun j => v.ownBlock = some j ∨ j = b9) fun _ _ e => e.elim).trans (hf2.mono (T := fun j => v.ownBlock = some j ∨ j = b9) fun _ _ e => .inl e) fun _ _ e => e).trans (hf3.mono (T := fun j => v.ownBlock = some j ∨ j = b9) fun _ _ e => .inr e) fun _ _ e => e
  have hne := own_ne hr.own hb (by decide)
  have hb2 : Blk w2 b9 [v] 29 := (hb.alloc o).fr hf2 hne
  have hr2 : Recs w2 rb 33 2 v' ((pre ++ [x]).map prc) := by
    rw [List.map_append]
    exact hr.app (prc x) rfl (by rw [List.length_map]; exact hO)
  have hne2 := own_ne hr2.own hb2 (by decide)
  have hne3 := own_ne hr.own h.other (by decide)
  have hcell : ∀ j, (v.ownBlock = some j ∨ j = b9) → ∃ cur t, W.heap[j]? = some (.cells cur t (0, 0)) ∧ t ≠ 60 ∧ t ≠ 63 ∧ base ≤ j := fun j e => by
    rcases e with e | rfl
    · obtain ⟨cur, hc⟩ := own_at hr.own e
      exact ⟨cur, _, hc, by decide, by decide, Nat.le_trans hrb (hr.own.lt j e).1⟩
    · exact ⟨_, _, hb, by decide, by decide, h9⟩
  refine ⟨⟨hf.size, fun j ob hj ho => ?_⟩, hf.mono fun j _ e => ?_, ⟨⟨v', hb2.set 0 v', hr2.fr hf3 fun k e e' => hne2 (e' ▸ e)⟩, h.other.fr hf (by rintro (e | e); exact hne3 e; exact hne0 e), h.below.trans (hf.below (fun j _ e => ?_) (Nat.le_trans hbw h.below.size))⟩, hf⟩
  · refine (hf.block j (Array.getElem?_eq_some_iff.1 hj).1 (fun e => ?_)).trans hj
    obtain ⟨cur, t, hc, _⟩ := hcell j e
    rw [hj] at hc; cases hc; cases ho
  · obtain ⟨cur, t, hc, h1, h2, h3⟩ := hcell j e
    exact ⟨h3, not_mine_of hc h1 h2⟩
  · obtain ⟨cur, t, hc, h1, h2, h3⟩ := hcell j e
    exact h3
theorem own_capO {w : World} {base : Nat} {e : TypeId} {sz n k cap : Nat} {A : Option Addr} {xs : List Value} (h : w.ownsRow base e sz (.slice A k cap) n xs) (hk : n = k) : k ≤ cap := by
  rcases h.2 with ⟨e, h0⟩ | ⟨g', cap', cur, e, _, _, h3, _⟩
  · cases e; exact Nat.zero_le _
  · cases e; omega
theorem PsAt.take {w : World} {A : Option Addr} {xs : List Pr} (h : PsAt w A xs) (n : Nat) : PsAt w A (xs.take n) := fun k x hx => h k x (by
  have := (List.getElem?_eq_some_iff.1 hx)
  obtain ⟨h1, h2⟩ := this
  rw [List.getElem_take] at h2
  rw [List.length_take] at h1
  rw [← h2]
  exact List.getElem?_eq_getElem _)
structure Go2 (w4 wd : World) (b9 D : Nat) (v9 : Value) (SS pre : List Pr) (W : World) : Prop where
  i : GoI w4 w4.heap.size wd.heap.size (b9 + 1) b9 v9 pre W
  some_ : Recs W w4.heap.size 33 2 v9 (SS.map prc)
  d : W.heap[D]? = some (.deferred (some []))
  sz : wd.heap.size ≤ W.heap.size
theorem Go2.abides {w4 wd : World} {b9 D : Nat} {v9 : Value} {SS : List Pr} (hB : w4.heap.size ≤ wd.heap.size) (hD : D < wd.heap.size) : AbidesO w4.heap.size wd.heap.size (Go2 w4 wd b9 D v9 SS) := fun pre W W' h hs =>
  ⟨GoI.abides hB (Nat.le_refl _) _ _ _ h.i hs, h.some_.fr hs (fun k e => by obtain ⟨cur, hc⟩ := own_at h.some_.own e; exact offO hc (by decide) (by decide)),
    (Fr.block hs D (Array.getElem?_eq_some_iff.1 h.d).1 (by rintro (⟨_, hm⟩ | ⟨h1, _⟩); exact not_mine h.d rfl hm; omega)).trans h.d, Nat.le_trans h.sz hs.size⟩
set_option maxRecDepth 20000 in
set_option maxHeartbeats 16000000 in
theorem mergeGoes_walk (W : World) (A : Option Addr) (n c : Nat) (xss : List (List Pr)) (hx : RPrss W [.slice A n c] xss) (hbk : bulkL (bulkL fun x => vbulk (prc x)) xss ≤ 1048576) (stop : Int) (wf : (Lit.int .i64 stop).wf = true) :
    Calls Try.prog 4 #[.slice A n c, .int .i64 stop] W fun e w' => e = .returned (.bool true) ∧ Below W.heap.size W w' := by
  have hbl := bulk_runs xss
  have hlen : xss.length = n := by obtain ⟨a', n', c', hv, h1, _⟩ := hx; cases hv; exact h1
  have hn : n ≤ 1048576 := by omega
  have hel : ∀ xs ∈ xss, xs.length ≤ 1048576 := fun xs hm => by
    have : xs.length ≤ xss.flatten.length := by
      obtain ⟨j, hj⟩ := List.mem_iff_getElem?.1 hm
      have h1 := List.getElem?_eq_some_iff.1 hj
      rw [← List.take_append_drop j xss, List.drop_eq_getElem_cons h1.1, List.flatten_append, List.flatten_cons, h1.2]
      simp; omega
    omega
  have hfl : xss.flatten.length ≤ 1048576 := by omega
  have HX := Lib.hid hx
  have HN := Lib.hid hn
  have HEL := Lib.hid hel
  have HFL := Lib.hid hfl
  have HLEN := Lib.hid hlen
  have HST := Lib.hid (Blk.new W [.int .i64 stop] 3)
  have HB0 := Lib.hid ((Below.refl W.heap.size W).alloc (Nat.le_refl _) (.cells #[.int .i64 stop] 3))
  clear hx hbk hbl hlen hn hel hfl wf
  refine (callsIn_wide (n := 5)).1 ?_
  refine callsIn_of_wp_marks Try.func4 rfl trivial ?_ rfl
  simp only [Try.ntmps4, List.size_toArray, List.length_cons, List.length_nil, Nat.reduceAdd, Nat.reduceSub, Array.replicate_succ, Array.replicate_zero, List.push_toArray, List.append_toArray, List.nil_append, List.cons_append]
  gi_wp2_with fail
  change Hid (Blk (W.alloc (.cells #[.int .i64 stop] 3)) W.heap.size [.int .i64 stop] 3) at HST
  generalize W.alloc (.cells #[.int .i64 stop] 3) = w0 at HST HB0 ⊢
  refine ⟨trivial, (callsIn_wide.2 (speaks_c w0)).mono ?_⟩
  rintro e w1 ⟨rfl, hb1⟩
  have HB1 : Hid (Below W.heap.size W w1) := Lib.hid (below_then HB0.out HB0.out.size hb1)
  have HST1 := Lib.hid (HST.out.below hb1 HST.out.lt)
  clear hb1 HST HB0
  have HCP := Lib.hid (copied_c w1 A n c xss (rsl_belowA HX.out HB1.out) HN.out HEL.out)
  gi_wp2_with fail
  refine ⟨trivial, (callsIn_wide.2 HCP.out).mono ?_⟩
  rintro e w2 ⟨va, vb, La, Lb, rfl, hC⟩
  obtain ⟨Aa, ca, rfl⟩ := own_slice hC.a
  obtain ⟨Ab, cb, rfl⟩ := own_slice hC.b
  have htk : xss.take n = xss := List.take_of_length_le (by rw [HLEN.out]; exact Nat.le_refl _)
  have hra := hC.ra
  have hrb := hC.rb
  rw [htk] at hra hrb
  have HST2 := Lib.hid (HST1.out.below hC.below HST1.out.lt)
  have HBO : Hid (Both W w2 n ca cb Aa Ab (runsOf La xss)) := Lib.hid ⟨rows_sl HLEN.out hC.a hra, rows_runs hra, rows_doc HLEN.out hC.b hrb, below_then HB1.out HB1.out.size hC.below⟩
  have HTD : Hid ((out (runsOf La xss) n (todo (runsOf La xss) (fun _ => 0) n) fun _ => 0).length ≤ 1048576) := Lib.hid (by
    rw [out_len rfl, todo_runs La xss n (Nat.le_of_eq HLEN.out.symm), htk]; exact HFL.out)
  have HPL : Hid (∀ i, i < n → ((runsOf La xss) i).ps.length ≤ 1048576) := Lib.hid (fun i hi => by
    rw [runsOf_ps, List.getD_eq_getElem?_getD, List.getElem?_eq_getElem (by rw [HLEN.out]; exact hi)]
    exact HEL.out _ (List.getElem_mem _))
  clear hC hra hrb htk HCP HX HEL HST1
  generalize hR : runsOf La xss = R at *
  clear hR
  generalize hOO : (out R n (todo R (fun _ => 0) n) fun _ => 0) = O at HTD
  have HOO := Lib.hid hOO
  clear hOO
  have HRM := Lib.hid (rmerge_c w2 Ab n cb R HBO.out.doc HN.out (by rw [HOO.out]; exact HTD.out) HPL.out)
  rw [HOO.out] at HRM
  gi_wp2_with fail
  refine ⟨trivial, (callsIn_wide.2 HRM.out).mono ?_⟩
  rintro e w3 ⟨v3, rfl, hr3, hb3⟩
  have HB3 := Lib.hid (HBO.out.new hb3)
  have HST3 := Lib.hid (HST2.out.below hb3 HST2.out.lt)
  obtain ⟨A3, c3, hv3⟩ := hr3.slice
  rw [List.length_map] at hv3
  subst hv3
  have HP3 := Lib.hid (PsAt.of_recs hr3).2
  have HC3 := Lib.hid (own_capO hr3.own (by simp))
  clear hr3 hb3 HRM HBO HST2
  gi_wp2_with fail
  refine ⟨trivial, (callsIn_wide.2 (all_c w3 Aa n ca)).mono ?_⟩
  rintro e w4 ⟨rfl, hw4⟩
  have hB34 : Below w3.heap.size w3 w4 := by rw [hw4]; exact (Below.refl _ w3).alloc (Nat.le_refl _) _
  have hX4 : Blk w4 w3.heap.size [.slice Aa n ca] 22 := by rw [hw4]; exact Blk.new w3 _ _
  have HST4 := Lib.hid (HST3.out.below hB34 HST3.out.lt)
  have HP4 := Lib.hid (HP3.out.below hB34)
  have HB4 := Lib.hid (HB3.out.new hB34)
  have HX4 := Lib.hid hX4
  have HALL : Hid (∀ k w, Below w4.heap.size w4 w → Gives k Try.prog 20 #[.pointer (some ⟨w3.heap.size, 0, none⟩)] w4.heap.size (fun xs => xs = O) (fun pre => pre <+: O) O.length w) := Lib.hid fun k w hB => by
    have := all1_gives k w3.heap.size w4.heap.size Aa n ca R HN.out w ((hB.cell (p := ⟨w3.heap.size, 0, none⟩) HX4.out.lt).trans (HX4.out.cell 0)) (HB4.out.sl.below hB) (HB4.out.runs.below hB) hB.size
    rw [HOO.out] at this
    exact this
  clear hB34 hX4 hw4 HB3 HST3 HP3 HX4 HPL
  gi_wp2_with fail
  have hs5 : (w4.alloc (.cells #[.slice none 0 0] 29)).heap.size = w4.heap.size + 1 := by simp
  have hX9 : Blk ((w4.alloc (.cells #[.slice none 0 0] 29)).alloc (.cells #[.slice none 0 0] 29)) w4.heap.size [.slice none 0 0] 29 := (Blk.new w4 _ _).alloc _
  have hX10 : Blk ((w4.alloc (.cells #[.slice none 0 0] 29)).alloc (.cells #[.slice none 0 0] 29)) (w4.heap.size + 1) [.slice none 0 0] 29 := by
    have := Blk.new (w4.alloc (.cells #[.slice none 0 0] 29)) [.slice none 0 0] 29
    rw [hs5] at this
    exact this
  have hB5 : Below w4.heap.size w4 ((w4.alloc (.cells #[.slice none 0 0] 29)).alloc (.cells #[.slice none 0 0] 29)) := ((Below.refl _ w4).alloc (Nat.le_refl _) _).alloc (by simp) _
  have HI5 : Hid (GoI w4 w4.heap.size w4.heap.size w4.heap.size (w4.heap.size + 1) (.slice none 0 0) [] ((w4.alloc (.cells #[.slice none 0 0] 29)).alloc (.cells #[.slice none 0 0] 29))) := Lib.hid ⟨⟨_, hX9, Recs.nil _ _ _ _⟩, hX10, hB5⟩
  have HB5 := Lib.hid hB5
  clear hs5 hX9 hX10 hB5
  generalize (w4.alloc (.cells #[.slice none 0 0] 29)).alloc (.cells #[.slice none 0 0] 29) = w5 at HI5 HB5 ⊢
  refine rangeT (gf := 20) (lb := #[.pointer (some ⟨w3.heap.size, 0, none⟩)]) (S := fun xs => xs = O) (Sp := fun pre => pre <+: O) (N := O.length) (base := w4.heap.size) rfl (enters_of Try.func20 (by kernel_rfl) rfl) HB5.out.size (HALL.out _ _ HB5.out) rfl
    (fun pre W' => GoI w4 w4.heap.size w4.heap.size w4.heap.size (w4.heap.size + 1) (.slice none 0 0) pre W' ∧ ∀ k : Nat, k < pre.length → (k : Int) ≠ stop)
    (fun cd pre W' => cd = .exit 0 ∧ ∃ pre0 x, pre = pre0 ++ [x] ∧ (pre0.length : Int) = stop ∧ GoI w4 w4.heap.size w4.heap.size w4.heap.size (w4.heap.size + 1) (.slice none 0 0) pre0 W')
    (fun pre W1 W2 h hs => ⟨GoI.abides HB5.out.size (Nat.le_refl _) _ _ _ h.1 hs, h.2⟩)
    (fun cd pre W1 W2 h hs => by
      obtain ⟨h1, pre0, x, h2, h3, h4⟩ := h
      exact ⟨h1, pre0, x, h2, h3, GoI.abides HB5.out.size (Nat.le_refl _) _ _ _ h4 hs⟩)
    ⟨HI5.out, fun k hk => absurd hk (Nat.not_lt_zero k)⟩
    (fun x a' W' => ∃ Bx, Blk W' Bx (prc x) 33 ∧ a' = { tmps := #[.slice A n c, .int .i64 stop, undef, .pointer (some ⟨W.heap.size, 0, none⟩), .bool false, .slice Aa n ca, .slice Ab n cb, .slice A3 O.length c3, .func (.func 20) #[] #[.pointer (some ⟨w3.heap.size, 0, none⟩)], .pointer (some ⟨w4.heap.size, 0, none⟩), .pointer (some ⟨w4.heap.size + 1, 0, none⟩), .pointer (some ⟨Bx, 0, none⟩), undef, undef, .bool true, .bool false, .tuple #[.slice Aa n ca, .slice Ab n cb], .slice A n c, .tuple #[.slice Aa n ca, .slice Ab n cb], .slice Aa n ca, .slice Ab n cb, .slice Ab n cb, .slice A3 O.length c3, .slice Aa n ca, .func (.func 20) #[] #[.pointer (some ⟨w3.heap.size, 0, none⟩)], .func (.func 20) #[] #[.pointer (some ⟨w3.heap.size, 0, none⟩)], pcells x, undef, undef, undef, undef, undef, undef, undef, undef, undef, undef, undef, undef, undef, undef, undef, undef, undef, undef, undef, undef, undef, undef, undef, undef, undef, undef, undef, undef, undef, undef, undef, undef, undef, undef], defers := [] })
    (fun x a' _ A1 B1 h hs => by
      obtain ⟨Bx, hx, ha⟩ := h
      exact ⟨Bx, hx.fr hs (offO hx (by decide) (by decide)), ha⟩) ?assign ?body ?done ?stop
  case assign =>
    intro l pre x Wa K hi hl hK
    obtain ⟨x1, x2⟩ := x
    have HX := Lib.hid (Blk.new Wa [.string x1, .string x2] 33)
    have HBA : Hid (Below Wa.heap.size Wa (Wa.alloc (.cells #[.string x1, .string x2] 33))) := Lib.hid ((Below.refl _ Wa).alloc (Nat.le_refl _) _)
    have HII := Lib.hid (And.intro (GoI.abides (Nat.le_refl _) (Nat.le_refl _) _ _ _ hi.1 (StepO.new HBA.out)) hi.2)
    have HKK := Lib.hid hK
    clear hi hl hK
    simp only [pcells]
    gi_wp2
    refine HKK.out _ _ ⟨HBA.out.size, fun j o h _ => (HBA.out.block j (Array.getElem?_eq_some_iff.1 h).1).trans h⟩ ⟨HBA.out.os, HBA.out.tape, HBA.out.output, HBA.out.size, fun j hj _ => HBA.out.block j hj⟩ HII.out ⟨Wa.heap.size, HX.out, rfl⟩
  case body =>
    rintro l pre x a' Wb ⟨hi, hns⟩ ⟨Bx, hx, rfl⟩ hlt
    obtain ⟨x1, x2⟩ := x
    obtain ⟨v, hb, hr⟩ := hi.box
    obtain ⟨Av, cv, hv⟩ := hr.slice
    rw [List.length_map] at hv
    subst hv
    have HI := Lib.hid hi
    have HB := Lib.hid hb
    have HR := Lib.hid hr
    have HNS := Lib.hid hns
    have HLT := Lib.hid hlt
    have x0 : Wb.cell? ⟨Bx, 0, none⟩ = some (.string x1) := hx.cell 0
    have x1' : Wb.cell? ⟨Bx, 1, none⟩ = some (.string x2) := hx.cell 1
    have b0 : Wb.cell? ⟨w4.heap.size, 0, none⟩ = some (.slice Av pre.length cv) := hb.cell 0
    have s0 : Wb.cell? ⟨W.heap.size, 0, none⟩ = some (.int .i64 stop) := (HST4.out.below hi.below HST4.out.lt).cell 0
    obtain ⟨i0, hii, hz0, hz1, hz2⟩ := info_parts pair_info
    have HOW : Hid ((Wb.alloc (.cells #[.string x1, .string x2] 33)).ownsRow w4.heap.size 33 2 (.slice Av pre.length cv) pre.length (pre.map prc).flatten) := Lib.hid (by have := (hr.alloc (.cells #[.string x1, .string x2] 33)).own; rw [List.length_map] at this; exact this)
    have HK1 : Hid (∀ w', (Wb.alloc (.cells #[.string x1, .string x2] 33)).grownBy w' (Value.slice Av pre.length cv).ownBlock → w'.cell? ⟨w4.heap.size, 0, none⟩ = some (.slice Av pre.length cv) ∧ w'.frozen? ⟨w4.heap.size, 0, none⟩ = false) := Lib.hid fun w' hg => by
      have hB := (HB.out.alloc (.cells #[.string x1, .string x2] 33)).fr (Fr.of_grown hg (S := fun j => (Value.slice Av pre.length cv).ownBlock = some j) fun _ e => e) (own_ne HR.out.own HB.out (by decide))
      exact ⟨hB.cell 0, hB.frozen 0⟩
    have HL1 : Hid (pre.length + 1 ≤ maxLen) := Lib.hid (by unfold maxLen; have := HTD.out; omega)
    have HL2 : Hid ((pre.length + 1) * 32 ≤ 140737488355328) := Lib.hid (by have := HTD.out; omega)
    have HL3 : Hid (w4.heap.size ≤ (Wb.alloc (.cells #[.string x1, .string x2] 33)).heap.size) := Lib.hid (Nat.le_trans hi.below.size (by simp))
    clear hi hb hr hx hlt hns
    by_cases hq : (pre.length : Int) = stop
    · have e1 : ((pre.length : Int) == stop) = true := by rw [hq]; exact beq_self_eq_true _
      have HQ := Lib.hid hq
      clear hq
      gi_wp2_with fail
      exact ⟨⟨Nat.le_refl _, fun _ _ h _ => h⟩, rfl, pre, (x1, x2), rfl, HQ.out, HI.out⟩
    · have e1 : ((pre.length : Int) == stop) = false := by simpa using hq
      have HQ := Lib.hid hq
      clear hq
      gi_wp2_with (gi_at_builtin; refine wpListIn_append_own_at _ rfl _ _ 29 rfl w4.heap.size 33 i0 _ 2 32 Try.underlying29 hii hz0 hz1 hz2 rfl (by decide) _ _ _ rfl HOW.out ⟨Wb.heap.size, 0, none⟩ 1 1 [.string x1, .string x2] rfl rfl (cell_news Wb [.string x1, .string x2] 33) (by simp [Value.oneCell']) HL1.out HL2.out HL3.out ?_; intro v' w' hO' hG' _ _; obtain ⟨k1, k2⟩ := HK1.out w' hG'; have HO2 := Lib.hid hO'; have HG2 := Lib.hid hG'; obtain ⟨A', c', rfl⟩ := own_slice hO'; clear hO' hG')
      obtain ⟨g1, g2, g3, _⟩ := HI.out.step (x := (x1, x2)) (Nat.le_refl _) (Nat.le_refl _) (Nat.succ_ne_self _) (Nat.le_refl _) HB.out HR.out HO2.out HG2.out
      refine ⟨g1, g2, g3, fun k hk => ?_⟩
      by_cases hk2 : k < pre.length
      · exact HNS.out k hk2
      · have : k = pre.length := by simp at hk; omega
        rw [this]; exact HQ.out
  case done =>
    rintro D ys Wd hD hys ⟨hi, hns⟩ hK
    obtain ⟨SS, hSS⟩ : ∃ SS, SS = ys := ⟨_, rfl⟩
    have HSS : Hid (SS = O.take (if 0 ≤ stop ∧ stop < O.length then stop.toNat else O.length)) := Lib.hid (by
      rw [if_neg (fun h => hns stop.toNat (by rw [hys]; omega) (by omega)), List.take_of_length_le (Nat.le_refl _), hSS, hys])
    rw [← hSS] at hi
    clear hSS hys hns
    obtain ⟨v9, h9, hr9⟩ := hi.box
    obtain ⟨A9, c9, hv9⟩ := hr9.slice
    rw [List.length_map] at hv9
    subst hv9
    have H9 := Lib.hid h9
    have HR9 := Lib.hid hr9
    have H10 := Lib.hid hi.other
    have HBd := Lib.hid hi.below
    have HKD := Lib.hid hK
    have HB5D : Hid (w4.heap.size ≤ D) := Lib.hid (Nat.le_trans HB5.out.size hD)
    clear hi h9 hr9 hK hD HI5 HB5
    gi_wp2_with fail
    have HI2 : Hid (Go2 w4 Wd w4.heap.size D (.slice A9 SS.length c9) SS [] Wd) := Lib.hid ⟨⟨⟨_, H10.out, Recs.nil _ _ _ _⟩, H9.out, HBd.out⟩, HR9.out, HKD.out, Nat.le_refl _⟩
    refine rangeT (gf := 20) (lb := #[.pointer (some ⟨w3.heap.size, 0, none⟩)]) (S := fun xs => xs = O) (Sp := fun pre => pre <+: O) (N := O.length) (base := w4.heap.size) rfl (enters_of Try.func20 (by kernel_rfl) rfl) HBd.out.size (HALL.out _ _ HBd.out) rfl
      (Go2 w4 Wd w4.heap.size D (.slice A9 SS.length c9) SS) (fun _ _ _ => False) (Go2.abides HBd.out.size (Array.getElem?_eq_some_iff.1 HKD.out).1) (fun _ _ _ _ h _ => h) HI2.out
      (fun x a' W' => ∃ Bx, Blk W' Bx (prc x) 33 ∧ a' = { tmps := #[.slice A n c, .int .i64 stop, undef, .pointer (some ⟨W.heap.size, 0, none⟩), .bool false, .slice Aa n ca, .slice Ab n cb, .slice A3 O.length c3, .func (.func 20) #[] #[.pointer (some ⟨w3.heap.size, 0, none⟩)], .pointer (some ⟨w4.heap.size, 0, none⟩), .pointer (some ⟨w4.heap.size + 1, 0, none⟩), undef, .pointer (some ⟨Bx, 0, none⟩), undef, .bool true, .bool false, .tuple #[.slice Aa n ca, .slice Ab n cb], .slice A n c, .tuple #[.slice Aa n ca, .slice Ab n cb], .slice Aa n ca, .slice Ab n cb, .slice Ab n cb, .slice A3 O.length c3, .slice Aa n ca, .func (.func 20) #[] #[.pointer (some ⟨w3.heap.size, 0, none⟩)], .func (.func 20) #[] #[.pointer (some ⟨w3.heap.size, 0, none⟩)], undef, undef, undef, undef, undef, undef, undef, undef, undef, .func (.func 20) #[] #[.pointer (some ⟨w3.heap.size, 0, none⟩)], pcells x, undef, undef, undef, undef, undef, undef, undef, undef, undef, undef, undef, undef, undef, undef, undef, undef, undef, undef, undef, undef, undef, undef, undef, undef], defers := [] })
      (fun x a' _ A1 B1 h hs => by
        obtain ⟨Bx, hx, ha⟩ := h
        exact ⟨Bx, hx.fr hs (offO hx (by decide) (by decide)), ha⟩) ?assign ?body ?done (fun _ _ _ _ _ _ h _ => h.elim)
    case assign =>
      intro l pre x Wa K hi hl hK
      obtain ⟨x1, x2⟩ := x
      have HX := Lib.hid (Blk.new Wa [.string x1, .string x2] 33)
      have HBA : Hid (Below Wa.heap.size Wa (Wa.alloc (.cells #[.string x1, .string x2] 33))) := Lib.hid ((Below.refl _ Wa).alloc (Nat.le_refl _) _)
      have HII := Lib.hid (Go2.abides HBd.out.size (Array.getElem?_eq_some_iff.1 HKD.out).1 _ _ _ hi (StepO.new HBA.out))
      have HKK := Lib.hid hK
      clear hi hl hK
      simp only [pcells]
      gi_wp2
      refine HKK.out _ _ ⟨HBA.out.size, fun j o h _ => (HBA.out.block j (Array.getElem?_eq_some_iff.1 h).1).trans h⟩ ⟨HBA.out.os, HBA.out.tape, HBA.out.output, HBA.out.size, fun j hj _ => HBA.out.block j hj⟩ HII.out ⟨Wa.heap.size, HX.out, rfl⟩
    case body =>
      rintro l pre x a' Wb hi ⟨Bx, hx, rfl⟩ hlt
      obtain ⟨x1, x2⟩ := x
      obtain ⟨v, hb, hr⟩ := hi.i.box
      obtain ⟨Av, cv, hv⟩ := hr.slice
      rw [List.length_map] at hv
      subst hv
      have HI := Lib.hid hi
      have HB := Lib.hid hb
      have HR := Lib.hid hr
      have HLT := Lib.hid hlt
      have x0 : Wb.cell? ⟨Bx, 0, none⟩ = some (.string x1) := hx.cell 0
      have x1' : Wb.cell? ⟨Bx, 1, none⟩ = some (.string x2) := hx.cell 1
      have b0 : Wb.cell? ⟨w4.heap.size + 1, 0, none⟩ = some (.slice Av pre.length cv) := hb.cell 0
      obtain ⟨i0, hii, hz0, hz1, hz2⟩ := info_parts pair_info
      have HOW : Hid ((Wb.alloc (.cells #[.string x1, .string x2] 33)).ownsRow Wd.heap.size 33 2 (.slice Av pre.length cv) pre.length (pre.map prc).flatten) := Lib.hid (by have := (hr.alloc (.cells #[.string x1, .string x2] 33)).own; rw [List.length_map] at this; exact this)
      have HK1 : Hid (∀ w', (Wb.alloc (.cells #[.string x1, .string x2] 33)).grownBy w' (Value.slice Av pre.length cv).ownBlock → w'.cell? ⟨w4.heap.size + 1, 0, none⟩ = some (.slice Av pre.length cv) ∧ w'.frozen? ⟨w4.heap.size + 1, 0, none⟩ = false) := Lib.hid fun w' hg => by
        have hB := (HB.out.alloc (.cells #[.string x1, .string x2] 33)).fr (Fr.of_grown hg (S := fun j => (Value.slice Av pre.length cv).ownBlock = some j) fun _ e => e) (own_ne HR.out.own HB.out (by decide))
        exact ⟨hB.cell 0, hB.frozen 0⟩
      have HL1 : Hid (pre.length + 1 ≤ maxLen) := Lib.hid (by unfold maxLen; have := HTD.out; omega)
      have HL2 : Hid ((pre.length + 1) * 32 ≤ 140737488355328) := Lib.hid (by have := HTD.out; omega)
      have HL3 : Hid (Wd.heap.size ≤ (Wb.alloc (.cells #[.string x1, .string x2] 33)).heap.size) := Lib.hid (Nat.le_trans hi.sz (by simp))
      clear hi hb hr hx hlt
      gi_wp2_with (gi_at_builtin; refine wpListIn_append_own_at _ rfl _ _ 29 rfl Wd.heap.size 33 i0 _ 2 32 Try.underlying29 hii hz0 hz1 hz2 rfl (by decide) _ _ _ rfl HOW.out ⟨Wb.heap.size, 0, none⟩ 1 1 [.string x1, .string x2] rfl rfl (cell_news Wb [.string x1, .string x2] 33) (by simp [Value.oneCell']) HL1.out HL2.out HL3.out ?_; intro v' w' hO' hG' _ _; obtain ⟨k1, k2⟩ := HK1.out w' hG'; have HO2 := Lib.hid hO'; have HG2 := Lib.hid hG'; obtain ⟨A', c', rfl⟩ := own_slice hO'; clear hO' hG')
      obtain ⟨g1, g2, g3, g4⟩ := HI.out.i.step (x := (x1, x2)) HBd.out.size (Nat.le_succ _) (Nat.succ_ne_self _).symm (Nat.le_refl _) HB.out HR.out HO2.out HG2.out
      exact ⟨g1, g2, g3, HI.out.some_.fr g4 (fun k e => by
        rintro (e2 | e2)
        · have h1 := (HR.out.own.lt k e2).1
          have h2 := (HR9.out.own.lt k e).2
          omega
        · exact own_ne HI.out.some_.own HB.out (by decide) (e2 ▸ e)), g1.2 _ _ HI.out.d rfl, Nat.le_trans HI.out.sz g4.size⟩
    case done =>
      rintro D2 ys Wd2 hD2 hys hi2 hK2
      obtain ⟨v10, h10, hr10⟩ := hi2.i.box
      rw [hys] at hr10
      obtain ⟨A10, c10, hv10⟩ := hr10.slice
      rw [List.length_map] at hv10
      subst hv10
      have HI2' := Lib.hid hi2
      have HR10 := Lib.hid hr10
      have HK2 := Lib.hid hK2
      have s0 : Wd2.cell? ⟨W.heap.size, 0, none⟩ = some (.int .i64 stop) := (HST4.out.below hi2.i.below HST4.out.lt).cell 0
      have c9' : Wd2.cell? ⟨w4.heap.size, 0, none⟩ = some (.slice A9 SS.length c9) := hi2.i.other.cell 0
      have c10' : Wd2.cell? ⟨w4.heap.size + 1, 0, none⟩ = some (.slice A10 O.length c10) := h10.cell 0
      clear h10 hr10 hi2 hK2 hys HI2 HR9 H9 H10
      by_cases h0 : 0 ≤ stop
      · have z0 : decide (0 ≤ stop) = true := decide_eq_true h0
        by_cases h1 : stop < (O.length : Int)
        · have z1 : decide (stop < (O.length : Int)) = true := decide_eq_true h1
          rw [if_pos ⟨h0, h1⟩] at HSS
          obtain ⟨nn, hnn⟩ : ∃ nn : Nat, stop = (nn : Int) := ⟨stop.toNat, by omega⟩
          subst hnn
          rw [Int.toNat_natCast] at HSS
          have HNN : Hid (nn ≤ O.length) := Lib.hid (by omega)
          have z2 : decide (nn < O.length) = true := decide_eq_true (by omega)
          gi_wp2_with fail
          refine wpIn_wide.2 ?_
          have HBx : Hid (Below w4.heap.size w4 Wd2) := Lib.hid HI2'.out.i.below
          have HPO : Hid (PsAt Wd2 A3 O) := Lib.hid (HP4.out.below HBx.out)
          have LS1 := fun d os => Lib.hid (Calls.regrown_of (w := Wd2) (d := d) (os := os) (v := .bool true) (by
            have h1 := same_c (grow (redrawn Wd2 d) os) A10 A3 c10 c3 O O ((PsAt.of_recs HR10.out).2.below (below_regrown Wd2 d os)) (HPO.out.below (below_regrown Wd2 d os)) HTD.out HTD.out
            rw [decide_eq_true (rfl : O = O)] at h1
            exact h1))
          have LS2 := fun d os => Lib.hid (Calls.regrown_of (w := Wd2) (d := d) (os := os) (v := .bool true) (by
            have h1 := same_c (grow (redrawn Wd2 d) os) A9 A3 c9 c3 SS (O.take nn) ((PsAt.of_recs HI2'.out.some_).2.below (below_regrown Wd2 d os)) (((HPO.out.take nn).below (below_regrown Wd2 d os))) (by rw [HSS.out]; exact Nat.le_trans (List.length_take_le' _ _) HTD.out) (Nat.le_trans (List.length_take_le' _ _) HTD.out)
            rw [decide_eq_true (HSS.out : SS = O.take nn), List.length_take, Nat.min_eq_left HNN.out] at h1
            exact h1))
          have q9 := cell_regrown c9'
          have q10 := cell_regrown c10'
          have hnc : nn ≤ c3 := Nat.le_trans HNN.out HC3.out
          clear s0 c9' c10'
          refine wp_region_quiet_below (by kernel_rfl) (by kernel_rfl) ?_
          repeat (quiet_step (first | with_reducible exact (LS1 _ _).out | with_reducible exact (LS2 _ _).out))
          refine wpQuiet_nil ?_
          intro _ hw''
          obtain ⟨⟨dq, osq⟩, hw3⟩ := hw''
          subst hw3
          have HBN := Lib.hid (below_regrown Wd2 dq osq)
          generalize hw2 : grow (redrawn Wd2 { d := dq, os := osq : Regrown }.d) { d := dq, os := osq : Regrown }.os = wn
          change grow (redrawn Wd2 dq) osq = wn at hw2
          rw [hw2] at HBN
          clear hw2 q9 q10 LS1 LS2
          gi_wp2
          have hkD2 : wn.heap[D2]? = some (.deferred (some [])) := (HBN.out.block D2 (Array.getElem?_eq_some_iff.1 HK2.out).1).trans HK2.out
          have hkD : wn.heap[D]? = some (.deferred (some [])) := (HBN.out.block D (Array.getElem?_eq_some_iff.1 HI2'.out.d).1).trans HI2'.out.d
          have hDD : D ≠ D2 := by have := (Array.getElem?_eq_some_iff.1 HKD.out).1; omega
          have hbW : Below W.heap.size W wn := (below_then HB4.out.below HB4.out.below.size (HBx.out)).trans (HBN.out.mono (Nat.le_trans HB4.out.below.size HBx.out.size))
          have hw1 := HB4.out.below.size
          have hD1 : W.heap.size ≤ D := by have := HB5D.out; omega
          have hD2' : W.heap.size ≤ D2 := by have := HBx.out.size; have := HBd.out.size; omega
          refine ⟨by simp, .inl ⟨_, _, rfl, run_takeDeferred hkD2, ?_⟩⟩
          refine ⟨by simp, .inl ⟨_, _, rfl, run_takeDeferred ((World.putObj_heap_other hDD).trans hkD), ?_⟩⟩
          exact ⟨_, results_tmp rfl _ _ _, rfl, (hbW.grown (grownBy_putObj' wn D2 _) hbW.size (fun k e => by cases e; exact hD2')).grown (grownBy_putObj' _ D _) (by simp; exact hbW.size) (fun k e => by cases e; exact hD1)⟩
        · have z1 : decide (stop < (O.length : Int)) = false := decide_eq_false h1
          rw [if_neg (fun h => h1 h.2)] at HSS
          obtain ⟨nn, hnn⟩ : ∃ nn : Nat, nn = O.length := ⟨_, rfl⟩
          rw [← hnn] at HSS
          have HNN : Hid (nn ≤ O.length) := Lib.hid (Nat.le_of_eq hnn)
          gi_wp2_with fail
          refine wpIn_wide.2 ?_
          have HBx : Hid (Below w4.heap.size w4 Wd2) := Lib.hid HI2'.out.i.below
          have HPO : Hid (PsAt Wd2 A3 O) := Lib.hid (HP4.out.below HBx.out)
          have LS1 := fun d os => Lib.hid (Calls.regrown_of (w := Wd2) (d := d) (os := os) (v := .bool true) (by
            have h1 := same_c (grow (redrawn Wd2 d) os) A10 A3 c10 c3 O O ((PsAt.of_recs HR10.out).2.below (below_regrown Wd2 d os)) (HPO.out.below (below_regrown Wd2 d os)) HTD.out HTD.out
            rw [decide_eq_true (rfl : O = O)] at h1
            exact h1))
          have LS2 := fun d os => Lib.hid (Calls.regrown_of (w := Wd2) (d := d) (os := os) (v := .bool true) (by
            have h1 := same_c (grow (redrawn Wd2 d) os) A9 A3 c9 c3 SS (O.take nn) ((PsAt.of_recs HI2'.out.some_).2.below (below_regrown Wd2 d os)) (((HPO.out.take nn).below (below_regrown Wd2 d os))) (by rw [HSS.out]; exact Nat.le_trans (List.length_take_le' _ _) HTD.out) (Nat.le_trans (List.length_take_le' _ _) HTD.out)
            rw [decide_eq_true (HSS.out : SS = O.take nn), List.length_take, Nat.min_eq_left HNN.out] at h1
            exact h1))
          have q9 := cell_regrown c9'
          have q10 := cell_regrown c10'
          have hnc : nn ≤ c3 := Nat.le_trans HNN.out HC3.out
          subst hnn
          clear s0 c9' c10'
          refine wp_region_quiet_below (by kernel_rfl) (by kernel_rfl) ?_
          repeat (quiet_step (first | with_reducible exact (LS1 _ _).out | with_reducible exact (LS2 _ _).out))
          refine wpQuiet_nil ?_
          intro _ hw''
          obtain ⟨⟨dq, osq⟩, hw3⟩ := hw''
          subst hw3
          have HBN := Lib.hid (below_regrown Wd2 dq osq)
          generalize hw2 : grow (redrawn Wd2 { d := dq, os := osq : Regrown }.d) { d := dq, os := osq : Regrown }.os = wn
          change grow (redrawn Wd2 dq) osq = wn at hw2
          rw [hw2] at HBN
          clear hw2 q9 q10 LS1 LS2
          gi_wp2
          have hkD2 : wn.heap[D2]? = some (.deferred (some [])) := (HBN.out.block D2 (Array.getElem?_eq_some_iff.1 HK2.out).1).trans HK2.out
          have hkD : wn.heap[D]? = some (.deferred (some [])) := (HBN.out.block D (Array.getElem?_eq_some_iff.1 HI2'.out.d).1).trans HI2'.out.d
          have hDD : D ≠ D2 := by have := (Array.getElem?_eq_some_iff.1 HKD.out).1; omega
          have hbW : Below W.heap.size W wn := (below_then HB4.out.below HB4.out.below.size (HBx.out)).trans (HBN.out.mono (Nat.le_trans HB4.out.below.size HBx.out.size))
          have hw1 := HB4.out.below.size
          have hD1 : W.heap.size ≤ D := by have := HB5D.out; omega
          have hD2' : W.heap.size ≤ D2 := by have := HBx.out.size; have := HBd.out.size; omega
          refine ⟨by simp, .inl ⟨_, _, rfl, run_takeDeferred hkD2, ?_⟩⟩
          refine ⟨by simp, .inl ⟨_, _, rfl, run_takeDeferred ((World.putObj_heap_other hDD).trans hkD), ?_⟩⟩
          exact ⟨_, results_tmp rfl _ _ _, rfl, (hbW.grown (grownBy_putObj' wn D2 _) hbW.size (fun k e => by cases e; exact hD2')).grown (grownBy_putObj' _ D _) (by simp; exact hbW.size) (fun k e => by cases e; exact hD1)⟩
      · have z0 : decide (0 ≤ stop) = false := decide_eq_false h0
        rw [if_neg (fun h => h0 h.1)] at HSS
        obtain ⟨nn, hnn⟩ : ∃ nn : Nat, nn = O.length := ⟨_, rfl⟩
        rw [← hnn] at HSS
        have HNN : Hid (nn ≤ O.length) := Lib.hid (Nat.le_of_eq hnn)
        gi_wp2_with fail
        refine wpIn_wide.2 ?_
        have HBx : Hid (Below w4.heap.size w4 Wd2) := Lib.hid HI2'.out.i.below
        have HPO : Hid (PsAt Wd2 A3 O) := Lib.hid (HP4.out.below HBx.out)
        have LS1 := fun d os => Lib.hid (Calls.regrown_of (w := Wd2) (d := d) (os := os) (v := .bool true) (by
          have h1 := same_c (grow (redrawn Wd2 d) os) A10 A3 c10 c3 O O ((PsAt.of_recs HR10.out).2.below (below_regrown Wd2 d os)) (HPO.out.below (below_regrown Wd2 d os)) HTD.out HTD.out
          rw [decide_eq_true (rfl : O = O)] at h1
          exact h1))
        have LS2 := fun d os => Lib.hid (Calls.regrown_of (w := Wd2) (d := d) (os := os) (v := .bool true) (by
          have h1 := same_c (grow (redrawn Wd2 d) os) A9 A3 c9 c3 SS (O.take nn) ((PsAt.of_recs HI2'.out.some_).2.below (below_regrown Wd2 d os)) (((HPO.out.take nn).below (below_regrown Wd2 d os))) (by rw [HSS.out]; exact Nat.le_trans (List.length_take_le' _ _) HTD.out) (Nat.le_trans (List.length_take_le' _ _) HTD.out)
          rw [decide_eq_true (HSS.out : SS = O.take nn), List.length_take, Nat.min_eq_left HNN.out] at h1
          exact h1))
        have q9 := cell_regrown c9'
        have q10 := cell_regrown c10'
        have hnc : nn ≤ c3 := Nat.le_trans HNN.out HC3.out
        subst hnn
        clear s0 c9' c10'
        refine wp_region_quiet_below (by kernel_rfl) (by kernel_rfl) ?_
        repeat (quiet_step (first | with_reducible exact (LS1 _ _).out | with_reducible exact (LS2 _ _).out))
        refine wpQuiet_nil ?_
        intro _ hw''
        obtain ⟨⟨dq, osq⟩, hw3⟩ := hw''
        subst hw3
        have HBN := Lib.hid (below_regrown Wd2 dq osq)
        generalize hw2 : grow (redrawn Wd2 { d := dq, os := osq : Regrown }.d) { d := dq, os := osq : Regrown }.os = wn
        change grow (redrawn Wd2 dq) osq = wn at hw2
        rw [hw2] at HBN
        clear hw2 q9 q10 LS1 LS2
        gi_wp2
        have hkD2 : wn.heap[D2]? = some (.deferred (some [])) := (HBN.out.block D2 (Array.getElem?_eq_some_iff.1 HK2.out).1).trans HK2.out
        have hkD : wn.heap[D]? = some (.deferred (some [])) := (HBN.out.block D (Array.getElem?_eq_some_iff.1 HI2'.out.d).1).trans HI2'.out.d
        have hDD : D ≠ D2 := by have := (Array.getElem?_eq_some_iff.1 HKD.out).1; omega
        have hbW : Below W.heap.size W wn := (below_then HB4.out.below HB4.out.below.size (HBx.out)).trans (HBN.out.mono (Nat.le_trans HB4.out.below.size HBx.out.size))
        have hw1 := HB4.out.below.size
        have hD1 : W.heap.size ≤ D := by have := HB5D.out; omega
        have hD2' : W.heap.size ≤ D2 := by have := HBx.out.size; have := HBd.out.size; omega
        refine ⟨by simp, .inl ⟨_, _, rfl, run_takeDeferred hkD2, ?_⟩⟩
        refine ⟨by simp, .inl ⟨_, _, rfl, run_takeDeferred ((World.putObj_heap_other hDD).trans hkD), ?_⟩⟩
        exact ⟨_, results_tmp rfl _ _ _, rfl, (hbW.grown (grownBy_putObj' wn D2 _) hbW.size (fun k e => by cases e; exact hD2')).grown (grownBy_putObj' _ D _) (by simp; exact hbW.size) (fun k e => by cases e; exact hD1)⟩
  case stop =>
    rintro D cd pre Wd hD hp ⟨rfl, pre0, x, hpe, hst, hi⟩ hK
    obtain ⟨SS, hSS⟩ : ∃ SS, SS = pre0 := ⟨_, rfl⟩
    have HSS : Hid (SS = O.take (if 0 ≤ stop ∧ stop < O.length then stop.toNat else O.length)) := Lib.hid (by
      obtain ⟨rest, hrest⟩ := hp
      rw [hpe] at hrest
      have hl := congrArg List.length hrest
      simp at hl
      rw [if_pos ⟨by omega, by omega⟩, hSS, ← hrest, show stop.toNat = pre0.length by omega, List.append_assoc, List.take_left])
    rw [← hSS] at hi
    clear hSS hpe hst hp
    obtain ⟨v9, h9, hr9⟩ := hi.box
    obtain ⟨A9, c9, hv9⟩ := hr9.slice
    rw [List.length_map] at hv9
    subst hv9
    have H9 := Lib.hid h9
    have HR9 := Lib.hid hr9
    have H10 := Lib.hid hi.other
    have HBd := Lib.hid hi.below
    have HKD := Lib.hid hK
    have HB5D : Hid (w4.heap.size ≤ D) := Lib.hid (Nat.le_trans HB5.out.size hD)
    clear hi h9 hr9 hK hD HI5 HB5
    gi_wp2_with fail
    have HI2 : Hid (Go2 w4 Wd w4.heap.size D (.slice A9 SS.length c9) SS [] Wd) := Lib.hid ⟨⟨⟨_, H10.out, Recs.nil _ _ _ _⟩, H9.out, HBd.out⟩, HR9.out, HKD.out, Nat.le_refl _⟩
    refine rangeT (gf := 20) (lb := #[.pointer (some ⟨w3.heap.size, 0, none⟩)]) (S := fun xs => xs = O) (Sp := fun pre => pre <+: O) (N := O.length) (base := w4.heap.size) rfl (enters_of Try.func20 (by kernel_rfl) rfl) HBd.out.size (HALL.out _ _ HBd.out) rfl
      (Go2 w4 Wd w4.heap.size D (.slice A9 SS.length c9) SS) (fun _ _ _ => False) (Go2.abides HBd.out.size (Array.getElem?_eq_some_iff.1 HKD.out).1) (fun _ _ _ _ h _ => h) HI2.out
      (fun x a' W' => ∃ Bx, Blk W' Bx (prc x) 33 ∧ a' = { tmps := #[.slice A n c, .int .i64 stop, undef, .pointer (some ⟨W.heap.size, 0, none⟩), .bool false, .slice Aa n ca, .slice Ab n cb, .slice A3 O.length c3, .func (.func 20) #[] #[.pointer (some ⟨w3.heap.size, 0, none⟩)], .pointer (some ⟨w4.heap.size, 0, none⟩), .pointer (some ⟨w4.heap.size + 1, 0, none⟩), undef, .pointer (some ⟨Bx, 0, none⟩), undef, .bool true, .bool false, .tuple #[.slice Aa n ca, .slice Ab n cb], .slice A n c, .tuple #[.slice Aa n ca, .slice Ab n cb], .slice Aa n ca, .slice Ab n cb, .slice Ab n cb, .slice A3 O.length c3, .slice Aa n ca, .func (.func 20) #[] #[.pointer (some ⟨w3.heap.size, 0, none⟩)], .func (.func 20) #[] #[.pointer (some ⟨w3.heap.size, 0, none⟩)], undef, undef, undef, undef, undef, undef, undef, undef, undef, .func (.func 20) #[] #[.pointer (some ⟨w3.heap.size, 0, none⟩)], pcells x, undef, undef, undef, undef, undef, undef, undef, undef, undef, undef, undef, undef, undef, undef, undef, undef, undef, undef, undef, undef, undef, undef, undef, undef], defers := [] })
      (fun x a' _ A1 B1 h hs => by
        obtain ⟨Bx, hx, ha⟩ := h
        exact ⟨Bx, hx.fr hs (offO hx (by decide) (by decide)), ha⟩) ?assign ?body ?done (fun _ _ _ _ _ _ h _ => h.elim)
    case assign =>
      intro l pre x Wa K hi hl hK
      obtain ⟨x1, x2⟩ := x
      have HX := Lib.hid (Blk.new Wa [.string x1, .string x2] 33)
      have HBA : Hid (Below Wa.heap.size Wa (Wa.alloc (.cells #[.string x1, .string x2] 33))) := Lib.hid ((Below.refl _ Wa).alloc (Nat.le_refl _) _)
      have HII := Lib.hid (Go2.abides HBd.out.size (Array.getElem?_eq_some_iff.1 HKD.out).1 _ _ _ hi (StepO.new HBA.out))
      have HKK := Lib.hid hK
      clear hi hl hK
      simp only [pcells]
      gi_wp2
      refine HKK.out _ _ ⟨HBA.out.size, fun j o h _ => (HBA.out.block j (Array.getElem?_eq_some_iff.1 h).1).trans h⟩ ⟨HBA.out.os, HBA.out.tape, HBA.out.output, HBA.out.size, fun j hj _ => HBA.out.block j hj⟩ HII.out ⟨Wa.heap.size, HX.out, rfl⟩
    case body =>
      rintro l pre x a' Wb hi ⟨Bx, hx, rfl⟩ hlt
      obtain ⟨x1, x2⟩ := x
      obtain ⟨v, hb, hr⟩ := hi.i.box
      obtain ⟨Av, cv, hv⟩ := hr.slice
      rw [List.length_map] at hv
      subst hv
      have HI := Lib.hid hi
      have HB := Lib.hid hb
      have HR := Lib.hid hr
      have HLT := Lib.hid hlt
      have x0 : Wb.cell? ⟨Bx, 0, none⟩ = some (.string x1) := hx.cell 0
      have x1' : Wb.cell? ⟨Bx, 1, none⟩ = some (.string x2) := hx.cell 1
      have b0 : Wb.cell? ⟨w4.heap.size + 1, 0, none⟩ = some (.slice Av pre.length cv) := hb.cell 0
      obtain ⟨i0, hii, hz0, hz1, hz2⟩ := info_parts pair_info
      have HOW : Hid ((Wb.alloc (.cells #[.string x1, .string x2] 33)).ownsRow Wd.heap.size 33 2 (.slice Av pre.length cv) pre.length (pre.map prc).flatten) := Lib.hid (by have := (hr.alloc (.cells #[.string x1, .string x2] 33)).own; rw [List.length_map] at this; exact this)
      have HK1 : Hid (∀ w', (Wb.alloc (.cells #[.string x1, .string x2] 33)).grownBy w' (Value.slice Av pre.length cv).ownBlock → w'.cell? ⟨w4.heap.size + 1, 0, none⟩ = some (.slice Av pre.length cv) ∧ w'.frozen? ⟨w4.heap.size + 1, 0, none⟩ = false) := Lib.hid fun w' hg => by
        have hB := (HB.out.alloc (.cells #[.string x1, .string x2] 33)).fr (Fr.of_grown hg (S := fun j => (Value.slice Av pre.length cv).ownBlock = some j) fun _ e => e) (own_ne HR.out.own HB.out (by decide))
        exact ⟨hB.cell 0, hB.frozen 0⟩
      have HL1 : Hid (pre.length + 1 ≤ maxLen) := Lib.hid (by unfold maxLen; have := HTD.out; omega)
      have HL2 : Hid ((pre.length + 1) * 32 ≤ 140737488355328) := Lib.hid (by have := HTD.out; omega)
      have HL3 : Hid (Wd.heap.size ≤ (Wb.alloc (.cells #[.string x1, .string x2] 33)).heap.size) := Lib.hid (Nat.le_trans hi.sz (by simp))
      clear hi hb hr hx hlt
      gi_wp2_with (gi_at_builtin; refine wpListIn_append_own_at _ rfl _ _ 29 rfl Wd.heap.size 33 i0 _ 2 32 Try.underlying29 hii hz0 hz1 hz2 rfl (by decide) _ _ _ rfl HOW.out ⟨Wb.heap.size, 0, none⟩ 1 1 [.string x1, .string x2] rfl rfl (cell_news Wb [.string x1, .string x2] 33) (by simp [Value.oneCell']) HL1.out HL2.out HL3.out ?_; intro v' w' hO' hG' _ _; obtain ⟨k1, k2⟩ := HK1.out w' hG'; have HO2 := Lib.hid hO'; have HG2 := Lib.hid hG'; obtain ⟨A', c', rfl⟩ := own_slice hO'; clear hO' hG')
      obtain ⟨g1, g2, g3, g4⟩ := HI.out.i.step (x := (x1, x2)) HBd.out.size (Nat.le_succ _) (Nat.succ_ne_self _).symm (Nat.le_refl _) HB.out HR.out HO2.out HG2.out
      exact ⟨g1, g2, g3, HI.out.some_.fr g4 (fun k e => by
        rintro (e2 | e2)
        · have h1 := (HR.out.own.lt k e2).1
          have h2 := (HR9.out.own.lt k e).2
          omega
        · exact own_ne HI.out.some_.own HB.out (by decide) (e2 ▸ e)), g1.2 _ _ HI.out.d rfl, Nat.le_trans HI.out.sz g4.size⟩
    case done =>
      rintro D2 ys Wd2 hD2 hys hi2 hK2
      obtain ⟨v10, h10, hr10⟩ := hi2.i.box
      rw [hys] at hr10
      obtain ⟨A10, c10, hv10⟩ := hr10.slice
      rw [List.length_map] at hv10
      subst hv10
      have HI2' := Lib.hid hi2
      have HR10 := Lib.hid hr10
      have HK2 := Lib.hid hK2
      have s0 : Wd2.cell? ⟨W.heap.size, 0, none⟩ = some (.int .i64 stop) := (HST4.out.below hi2.i.below HST4.out.lt).cell 0
      have c9' : Wd2.cell? ⟨w4.heap.size, 0, none⟩ = some (.slice A9 SS.length c9) := hi2.i.other.cell 0
      have c10' : Wd2.cell? ⟨w4.heap.size + 1, 0, none⟩ = some (.slice A10 O.length c10) := h10.cell 0
      clear h10 hr10 hi2 hK2 hys HI2 HR9 H9 H10
      by_cases h0 : 0 ≤ stop
      · have z0 : decide (0 ≤ stop) = true := decide_eq_true h0
        by_cases h1 : stop < (O.length : Int)
        · have z1 : decide (stop < (O.length : Int)) = true := decide_eq_true h1
          rw [if_pos ⟨h0, h1⟩] at HSS
          obtain ⟨nn, hnn⟩ : ∃ nn : Nat, stop = (nn : Int) := ⟨stop.toNat, by omega⟩
          subst hnn
          rw [Int.toNat_natCast] at HSS
          have HNN : Hid (nn ≤ O.length) := Lib.hid (by omega)
          have z2 : decide (nn < O.length) = true := decide_eq_true (by omega)
          gi_wp2_with fail
          refine wpIn_wide.2 ?_
          have HBx : Hid (Below w4.heap.size w4 Wd2) := Lib.hid HI2'.out.i.below
          have HPO : Hid (PsAt Wd2 A3 O) := Lib.hid (HP4.out.below HBx.out)
          have LS1 := fun d os => Lib.hid (Calls.regrown_of (w := Wd2) (d := d) (os := os) (v := .bool true) (by
            have h1 := same_c (grow (redrawn Wd2 d) os) A10 A3 c10 c3 O O ((PsAt.of_recs HR10.out).2.below (below_regrown Wd2 d os)) (HPO.out.below (below_regrown Wd2 d os)) HTD.out HTD.out
            rw [decide_eq_true (rfl : O = O)] at h1
            exact h1))
          have LS2 := fun d os => Lib.hid (Calls.regrown_of (w := Wd2) (d := d) (os := os) (v := .bool true) (by
            have h1 := same_c (grow (redrawn Wd2 d) os) A9 A3 c9 c3 SS (O.take nn) ((PsAt.of_recs HI2'.out.some_).2.below (below_regrown Wd2 d os)) (((HPO.out.take nn).below (below_regrown Wd2 d os))) (by rw [HSS.out]; exact Nat.le_trans (List.length_take_le' _ _) HTD.out) (Nat.le_trans (List.length_take_le' _ _) HTD.out)
            rw [decide_eq_true (HSS.out : SS = O.take nn), List.length_take, Nat.min_eq_left HNN.out] at h1
            exact h1))
          have q9 := cell_regrown c9'
          have q10 := cell_regrown c10'
          have hnc : nn ≤ c3 := Nat.le_trans HNN.out HC3.out
          clear s0 c9' c10'
          refine wp_region_quiet_below (by kernel_rfl) (by kernel_rfl) ?_
          repeat (quiet_step (first | with_reducible exact (LS1 _ _).out | with_reducible exact (LS2 _ _).out))
          refine wpQuiet_nil ?_
          intro _ hw''
          obtain ⟨⟨dq, osq⟩, hw3⟩ := hw''
          subst hw3
          have HBN := Lib.hid (below_regrown Wd2 dq osq)
          generalize hw2 : grow (redrawn Wd2 { d := dq, os := osq : Regrown }.d) { d := dq, os := osq : Regrown }.os = wn
          change grow (redrawn Wd2 dq) osq = wn at hw2
          rw [hw2] at HBN
          clear hw2 q9 q10 LS1 LS2
          gi_wp2
          have hkD2 : wn.heap[D2]? = some (.deferred (some [])) := (HBN.out.block D2 (Array.getElem?_eq_some_iff.1 HK2.out).1).trans HK2.out
          have hkD : wn.heap[D]? = some (.deferred (some [])) := (HBN.out.block D (Array.getElem?_eq_some_iff.1 HI2'.out.d).1).trans HI2'.out.d
          have hDD : D ≠ D2 := by have := (Array.getElem?_eq_some_iff.1 HKD.out).1; omega
          have hbW : Below W.heap.size W wn := (below_then HB4.out.below HB4.out.below.size (HBx.out)).trans (HBN.out.mono (Nat.le_trans HB4.out.below.size HBx.out.size))
          have hw1 := HB4.out.below.size
          have hD1 : W.heap.size ≤ D := by have := HB5D.out; omega
          have hD2' : W.heap.size ≤ D2 := by have := HBx.out.size; have := HBd.out.size; omega
          refine ⟨by simp, .inl ⟨_, _, rfl, run_takeDeferred hkD2, ?_⟩⟩
          refine ⟨by simp, .inl ⟨_, _, rfl, run_takeDeferred ((World.putObj_heap_other hDD).trans hkD), ?_⟩⟩
          exact ⟨_, results_tmp rfl _ _ _, rfl, (hbW.grown (grownBy_putObj' wn D2 _) hbW.size (fun k e => by cases e; exact hD2')).grown (grownBy_putObj' _ D _) (by simp; exact hbW.size) (fun k e => by cases e; exact hD1)⟩
        · have z1 : decide (stop < (O.length : Int)) = false := decide_eq_false h1
          rw [if_neg (fun h => h1 h.2)] at HSS
          obtain ⟨nn, hnn⟩ : ∃ nn : Nat, nn = O.length := ⟨_, rfl⟩
          rw [← hnn] at HSS
          have HNN : Hid (nn ≤ O.length) := Lib.hid (Nat.le_of_eq hnn)
          gi_wp2_with fail
          refine wpIn_wide.2 ?_
          have HBx : Hid (Below w4.heap.size w4 Wd2) := Lib.hid HI2'.out.i.below
          have HPO : Hid (PsAt Wd2 A3 O) := Lib.hid (HP4.out.below HBx.out)
          have LS1 := fun d os => Lib.hid (Calls.regrown_of (w := Wd2) (d := d) (os := os) (v := .bool true) (by
            have h1 := same_c (grow (redrawn Wd2 d) os) A10 A3 c10 c3 O O ((PsAt.of_recs HR10.out).2.below (below_regrown Wd2 d os)) (HPO.out.below (below_regrown Wd2 d os)) HTD.out HTD.out
            rw [decide_eq_true (rfl : O = O)] at h1
            exact h1))
          have LS2 := fun d os => Lib.hid (Calls.regrown_of (w := Wd2) (d := d) (os := os) (v := .bool true) (by
            have h1 := same_c (grow (redrawn Wd2 d) os) A9 A3 c9 c3 SS (O.take nn) ((PsAt.of_recs HI2'.out.some_).2.below (below_regrown Wd2 d os)) (((HPO.out.take nn).below (below_regrown Wd2 d os))) (by rw [HSS.out]; exact Nat.le_trans (List.length_take_le' _ _) HTD.out) (Nat.le_trans (List.length_take_le' _ _) HTD.out)
            rw [decide_eq_true (HSS.out : SS = O.take nn), List.length_take, Nat.min_eq_left HNN.out] at h1
            exact h1))
          have q9 := cell_regrown c9'
          have q10 := cell_regrown c10'
          have hnc : nn ≤ c3 := Nat.le_trans HNN.out HC3.out
          subst hnn
          clear s0 c9' c10'
          refine wp_region_quiet_below (by kernel_rfl) (by kernel_rfl) ?_
          repeat (quiet_step (first | with_reducible exact (LS1 _ _).out | with_reducible exact (LS2 _ _).out))
          refine wpQuiet_nil ?_
          intro _ hw''
          obtain ⟨⟨dq, osq⟩, hw3⟩ := hw''
          subst hw3
          have HBN := Lib.hid (below_regrown Wd2 dq osq)
          generalize hw2 : grow (redrawn Wd2 { d := dq, os := osq : Regrown }.d) { d := dq, os := osq : Regrown }.os = wn
          change grow (redrawn Wd2 dq) osq = wn at hw2
          rw [hw2] at HBN
          clear hw2 q9 q10 LS1 LS2
          gi_wp2
          have hkD2 : wn.heap[D2]? = some (.deferred (some [])) := (HBN.out.block D2 (Array.getElem?_eq_some_iff.1 HK2.out).1).trans HK2.out
          have hkD : wn.heap[D]? = some (.deferred (some [])) := (HBN.out.block D (Array.getElem?_eq_some_iff.1 HI2'.out.d).1).trans HI2'.out.d
          have hDD : D ≠ D2 := by have := (Array.getElem?_eq_some_iff.1 HKD.out).1; omega
          have hbW : Below W.heap.size W wn := (below_then HB4.out.below HB4.out.below.size (HBx.out)).trans (HBN.out.mono (Nat.le_trans HB4.out.below.size HBx.out.size))
          have hw1 := HB4.out.below.size
          have hD1 : W.heap.size ≤ D := by have := HB5D.out; omega
          have hD2' : W.heap.size ≤ D2 := by have := HBx.out.size; have := HBd.out.size; omega
          refine ⟨by simp, .inl ⟨_, _, rfl, run_takeDeferred hkD2, ?_⟩⟩
          refine ⟨by simp, .inl ⟨_, _, rfl, run_takeDeferred ((World.putObj_heap_other hDD).trans hkD), ?_⟩⟩
          exact ⟨_, results_tmp rfl _ _ _, rfl, (hbW.grown (grownBy_putObj' wn D2 _) hbW.size (fun k e => by cases e; exact hD2')).grown (grownBy_putObj' _ D _) (by simp; exact hbW.size) (fun k e => by cases e; exact hD1)⟩
      · have z0 : decide (0 ≤ stop) = false := decide_eq_false h0
        rw [if_neg (fun h => h0 h.1)] at HSS
        obtain ⟨nn, hnn⟩ : ∃ nn : Nat, nn = O.length := ⟨_, rfl⟩
        rw [← hnn] at HSS
        have HNN : Hid (nn ≤ O.length) := Lib.hid (Nat.le_of_eq hnn)
        gi_wp2_with fail
        refine wpIn_wide.2 ?_
        have HBx : Hid (Below w4.heap.size w4 Wd2) := Lib.hid HI2'.out.i.below
        have HPO : Hid (PsAt Wd2 A3 O) := Lib.hid (HP4.out.below HBx.out)
        have LS1 := fun d os => Lib.hid (Calls.regrown_of (w := Wd2) (d := d) (os := os) (v := .bool true) (by
          have h1 := same_c (grow (redrawn Wd2 d) os) A10 A3 c10 c3 O O ((PsAt.of_recs HR10.out).2.below (below_regrown Wd2 d os)) (HPO.out.below (below_regrown Wd2 d os)) HTD.out HTD.out
          rw [decide_eq_true (rfl : O = O)] at h1
          exact h1))
        have LS2 := fun d os => Lib.hid (Calls.regrown_of (w := Wd2) (d := d) (os := os) (v := .bool true) (by
          have h1 := same_c (grow (redrawn Wd2 d) os) A9 A3 c9 c3 SS (O.take nn) ((PsAt.of_recs HI2'.out.some_).2.below (below_regrown Wd2 d os)) (((HPO.out.take nn).below (below_regrown Wd2 d os))) (by rw [HSS.out]; exact Nat.le_trans (List.length_take_le' _ _) HTD.out) (Nat.le_trans (List.length_take_le' _ _) HTD.out)
          rw [decide_eq_true (HSS.out : SS = O.take nn), List.length_take, Nat.min_eq_left HNN.out] at h1
          exact h1))
        have q9 := cell_regrown c9'
        have q10 := cell_regrown c10'
        have hnc : nn ≤ c3 := Nat.le_trans HNN.out HC3.out
        subst hnn
        clear s0 c9' c10'
        refine wp_region_quiet_below (by kernel_rfl) (by kernel_rfl) ?_
        repeat (quiet_step (first | with_reducible exact (LS1 _ _).out | with_reducible exact (LS2 _ _).out))
        refine wpQuiet_nil ?_
        intro _ hw''
        obtain ⟨⟨dq, osq⟩, hw3⟩ := hw''
        subst hw3
        have HBN := Lib.hid (below_regrown Wd2 dq osq)
        generalize hw2 : grow (redrawn Wd2 { d := dq, os := osq : Regrown }.d) { d := dq, os := osq : Regrown }.os = wn
        change grow (redrawn Wd2 dq) osq = wn at hw2
        rw [hw2] at HBN
        clear hw2 q9 q10 LS1 LS2
        gi_wp2
        have hkD2 : wn.heap[D2]? = some (.deferred (some [])) := (HBN.out.block D2 (Array.getElem?_eq_some_iff.1 HK2.out).1).trans HK2.out
        have hkD : wn.heap[D]? = some (.deferred (some [])) := (HBN.out.block D (Array.getElem?_eq_some_iff.1 HI2'.out.d).1).trans HI2'.out.d
        have hDD : D ≠ D2 := by have := (Array.getElem?_eq_some_iff.1 HKD.out).1; omega
        have hbW : Below W.heap.size W wn := (below_then HB4.out.below HB4.out.below.size (HBx.out)).trans (HBN.out.mono (Nat.le_trans HB4.out.below.size HBx.out.size))
        have hw1 := HB4.out.below.size
        have hD1 : W.heap.size ≤ D := by have := HB5D.out; omega
        have hD2' : W.heap.size ≤ D2 := by have := HBx.out.size; have := HBd.out.size; omega
        refine ⟨by simp, .inl ⟨_, _, rfl, run_takeDeferred hkD2, ?_⟩⟩
        refine ⟨by simp, .inl ⟨_, _, rfl, run_takeDeferred ((World.putObj_heap_other hDD).trans hkD), ?_⟩⟩
        exact ⟨_, results_tmp rfl _ _ _, rfl, (hbW.grown (grownBy_putObj' wn D2 _) hbW.size (fun k e => by cases e; exact hD2')).grown (grownBy_putObj' _ D _) (by simp; exact hbW.size) (fun k e => by cases e; exact hD1)⟩
end Mg
theorem mergeGoes_walk (W : World) (A : Option Addr) (n c : Nat) (xss : List (List Mg.Pr)) (hx : Mg.RPrss W [.slice A n c] xss) (hbk : bulkL (bulkL fun x => vbulk (Mg.prc x)) xss ≤ 1048576) (stop : Int) (wf : (Lit.int .i64 stop).wf = true) :
    Calls Try.prog 4 #[.slice A n c, .int .i64 stop] W fun e w' => e = .returned (.bool true) ∧ Below W.heap.size W w' := Mg.mergeGoes_walk W A n c xss hx hbk stop wf
end Go.Proofs.Ytgeeaddbapjikaa
