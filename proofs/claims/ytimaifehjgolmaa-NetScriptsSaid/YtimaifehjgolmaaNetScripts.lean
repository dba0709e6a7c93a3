/- NetScripts: every call of every script, and all that is under way behind it. -/
import Derived.Test.YtimaifehjgolmaaNetAll
import Derived.Deep.CutBlock
import Derived.Lib.QuietBelow
namespace Go.Proofs.Ytimaifehjgolmaa
open Go.RowKit Go.Maps
set_option linter.unusedVariables false
set_option linter.unusedSimpArgs false
set_option maxHeartbeats 4000000 in
set_option maxRecDepth 20000 in
theorem netScripts_walk (W : World) (nodes : Int) (wn : (Lit.int .i64 nodes).wf = true) (sa : Option Addr) (sl sc : Nat) (xs : List Act) (hR : RActs W [.slice sa sl sc] xs) :
    Calls Try.prog 5 #[.int .i64 nodes, .slice sa sl sc] W fun e w' => e = .returned (.bool true) ∧ Below W.heap.size W w' := by
  obtain ⟨hn, hnc, hcb, hcm, hel⟩ := rsl_get hR
  have HEL := Lib.hid hel
  have hsl : sl * 48 ≤ 140737488351232 := by omega
  clear hR hel hcb hcm wn
  have hbi : ∀ x : Int, (x != x) = false := fun x => by simp
  go_enter Try.func5, Try.ntmps5
  go_wp2_with fail
  refine (speaks_any W).mono ?_
  rintro e w1 ⟨rfl, hb⟩
  have HB := Lib.hid hb
  clear hb
  go_wp2_with fail
  refine (new_any nodes w1).mono ?_
  rintro e w2 ⟨rfl, m2, hb2⟩
  have M2 := Lib.hid m2
  have HB2 := Lib.hid (below_then HB.out HB.out.size hb2)
  have HS2 : Hid (w1.heap.size + 1 < w2.heap.size) := Lib.hid m2.lt.1
  clear m2 hb2
  go_wp2_with fail
  refine (refNew_any nodes w2).mono ?_
  rintro e w3 ⟨rfl, m3, hb3⟩
  have M3 := Lib.hid m3
  have N3 := Lib.hid (M2.out.below hb3 (Nat.le_refl _))
  have HB3 := Lib.hid (below_then HB2.out HB2.out.size hb3)
  have HS3 : Hid (w2.heap.size < w3.heap.size) := Lib.hid m3.lt
  clear m3 hb3 M2
  go_wp2_with fail
  refine (new_any nodes w3).mono ?_
  rintro e w4 ⟨rfl, m4, hb4⟩
  have hA : All W w4 (w1.heap.size + 1) w1.heap.size 0 (.slice none 0 0) (newNS nodes) w2.heap.size (.slice none 0 0) (newNS nodes) (w3.heap.size + 1) w3.heap.size (newNS nodes) :=
    ⟨N3.out.below hb4 (Nat.le_refl _), M3.out.below hb4 (Nat.le_refl _), m4, below_then HB3.out HB3.out.size hb4, by have := HB.out.size; omega, HB.out.size, by have := HB2.out.size; omega, (fun j e => by cases e), (fun j e => by cases e), by have := HS2.out; have := HS3.out; omega, by have := HS2.out; have := HS3.out; omega⟩
  have HA := Lib.hid hA
  have HC : Hid (newNS nodes).CutOk := Lib.hid fun a b _ => rfl
  clear m4 hb4 hA M3 N3 HB HB2 HB3 HS2 HS3
  generalize w1.heap.size + 1 = b1 at HA ⊢
  generalize w1.heap.size = k1 at HA ⊢
  generalize w2.heap.size = b2 at HA ⊢
  generalize w3.heap.size + 1 = b3 at HA ⊢
  generalize w3.heap.size = k3 at HA ⊢
  go_wp2_with fail
  go_loopg [8] sl (fun g iv wr => ∃ (k n : Nat) (v u : Value) (s : NS), iv = .int .i64 k ∧ k ≤ sl ∧ g = sl - k ∧ n ≤ k ∧ s.sent ≤ k ∧ Hid s.CutOk ∧ Hid (All W wr b1 k1 n v s b2 u s b3 k3 (newNS nodes)))
  case atStart => exact ⟨0, 0, _, _, newNS nodes, rfl, Nat.zero_le _, rfl, Nat.le_refl _, Int.le_refl _, HC, HA⟩
  case round =>
    obtain ⟨k, n, v, u, s, rfl, hk, hg, hnk, hsk, CC, MM⟩ := hrel
    subst hg
    clear HC HA
    by_cases h : k < sl
    · obtain ⟨x, hx⟩ : ∃ x, xs[k]? = some x := ⟨xs[k], List.getElem?_eq_getElem (by omega)⟩
      obtain ⟨b, off, rfl, hbW, hxw, hcell⟩ := HEL.out k x hx
      have hcw : ∀ (i : Nat) (v : Value), x.cells[i]? = some v → wr.cell? ⟨b, off + (k * 5 + i), none⟩ = some v := fun i v hv => by
        rw [← hcell i v hv]
        exact World.cell?_of_block (MM.out.below.block b hbW)
      have d0 : wr.cell? ⟨b, off + k * 5, none⟩ = some (.int .i64 x.what) := hcw 0 _ rfl
      have d1 : wr.cell? ⟨b, off + k * 5 + 1, none⟩ = some (.int .i64 x.a) := hcw 1 _ rfl
      have d2 : wr.cell? ⟨b, off + k * 5 + 2, none⟩ = some (.int .i64 x.b) := hcw 2 _ rfl
      have d3 : wr.cell? ⟨b, off + k * 5 + 3, none⟩ = some (.string x.text) := hcw 3 _ rfl
      have d4 : wr.cell? ⟨b, off + k * 5 + 4, none⟩ = some (.bool x.cut) := hcw 4 _ rfl
      obtain ⟨q, hq, hqc⟩ := tmod5 x.what hxw.w1 hxw.w2
      have wa := Lib.hid (i64_wf hxw.a1 hxw.a2)
      have wb := Lib.hid (i64_wf hxw.b1 hxw.b2)
      clear hcw hcell hx hxw
      obtain ⟨what, ta, tb, tt, tc⟩ := x
      dsimp only at *
      go_upto_region 9 with (fail)
      have HI := Lib.hid (Blk.new wr [.int .i64 what, .int .i64 ta, .int .i64 tb, .string tt, .bool tc] 45)
      have MX := Lib.hid (MM.out.alloc (.cells #[.int .i64 what, .int .i64 ta, .int .i64 tb, .string tt, .bool tc] 45))
      rw [show ([.int .i64 what, .int .i64 ta, .int .i64 tb, .string tt, .bool tc] : List Value).toArray = #[.int .i64 what, .int .i64 ta, .int .i64 tb, .string tt, .bool tc] from rfl] at HI
      generalize wr.alloc (.cells #[.int .i64 what, .int .i64 ta, .int .i64 tb, .string tt, .bool tc] 45) = wx at HI MX ⊢
      have i0 : wx.cell? ⟨wr.heap.size, 0, none⟩ = some (.int .i64 what) := HI.out.cell 0
      clear d0 d1 d2 d3 d4 MM HEL
      generalize wr.heap.size = ga at HI i0 ⊢
      go_upto_block 2 with (fail)
      go_cut [10] (fun okv wc => okv = .bool true ∧ ∃ (n' : Nat) (v' u' : Value) (s' : NS), n' ≤ k + 1 ∧ s'.sent ≤ k + 1 ∧ Hid s'.CutOk ∧ Hid (Blk wc ga [.int .i64 what, .int .i64 ta, .int .i64 tb, .string tt, .bool tc] 45) ∧ Hid (All W wc b1 k1 n' v' s' b2 u' s' b3 k3 (newNS nodes)))
      case first =>
        have i1 : wx.cell? ⟨ga, 1, none⟩ = some (.int .i64 ta) := HI.out.cell 1
        have i2 : wx.cell? ⟨ga, 2, none⟩ = some (.int .i64 tb) := HI.out.cell 2
        have i3 : wx.cell? ⟨ga, 3, none⟩ = some (.string tt) := HI.out.cell 3
        have i4 : wx.cell? ⟨ga, 4, none⟩ = some (.bool tc) := HI.out.cell 4
        rcases hqc with rfl | rfl | rfl | rfl | rfl
        · rcases hop : s.send ta tb tt with ⟨s', i, j⟩
          have hf := send_facts hop
          have HOP := Lib.hid hop
          have CC2 := Lib.hid (CutOk.send CC.out hop)
          have hs' : s'.sent ≤ k + 1 := by rcases hf with ⟨_, _, h2, _⟩ | ⟨_, rfl⟩ <;> omega
          clear hop hf
          go_wp2_with fail
          have hsend := send_any b1 k1 n v s ta tb tt wx MX.out.net (by omega)
          rw [HOP.out] at hsend
          refine hsend.mono ?_
          rintro e w5 ⟨rfl, v5, h5, r5⟩
          have M5 := Lib.hid (MX.out.stepNet h5 r5)
          have HI5 := Lib.hid (HI.out.fr r5.fr (MX.out.net.off HI.out (by decide) (by decide)))
          clear hsend h5 r5 i0 i1 i2 i3 i4
          have i1 : w5.cell? ⟨ga, 1, none⟩ = some (.int .i64 ta) := HI5.out.cell 1
          have i2 : w5.cell? ⟨ga, 2, none⟩ = some (.int .i64 tb) := HI5.out.cell 2
          have i3 : w5.cell? ⟨ga, 3, none⟩ = some (.string tt) := HI5.out.cell 3
          go_wp2_with fail
          have hsend := rsend_any b2 u s ta tb tt w5 M5.out.ref MX.out.net.ok (by omega)
          rw [HOP.out] at hsend
          refine hsend.mono ?_
          rintro e w6 ⟨rfl, u6, h6, r6⟩
          have M6 := Lib.hid (M5.out.stepRef h6 (.of r6))
          have HI6 := Lib.hid (HI5.out.fr r6.fr (M5.out.ref.off (fun cs hk => by rw [HI5.out] at hk; simp at hk) (fun cs hk => by rw [HI5.out] at hk; simp at hk)))
          clear hsend h6 r6 i1 i2 i3
          go_wp2_with fail
          go_meet
          exact ⟨rfl, n, v5, u6, s', by omega, hs', CC2, HI6, M6⟩
        · rcases hop : s.deliver ta with ⟨s', l, j⟩
          have hs' : s'.sent ≤ k + 1 := by have := deliver_facts hop; rcases this with ⟨_, _, h2⟩ | ⟨_, rfl⟩ <;> omega
          have HOP := Lib.hid hop
          have CC2 := Lib.hid (CutOk.deliver CC.out hop)
          clear hop
          obtain ⟨ln, ls, ld, lt⟩ := l
          go_wp2_with fail
          have hh := deliver_any b1 k1 n v s ta wx MX.out.net
          rw [HOP.out] at hh
          refine hh.mono ?_
          intro e w5 h5
          obtain ⟨rfl, v5, h5, r5⟩ := h5.lay
          have M5 := Lib.hid ((MX.out.stepNet h5 r5).alloc (.cells #[.int .i64 ln, .int .i64 ls, .int .i64 ld, .string lt] 32))
          have HI5 := Lib.hid ((HI.out.fr r5.fr (MX.out.net.off HI.out (by decide) (by decide))).alloc (.cells #[.int .i64 ln, .int .i64 ls, .int .i64 ld, .string lt] 32))
          have HL5 := Lib.hid (Blk.new w5 [.int .i64 ln, .int .i64 ls, .int .i64 ld, .string lt] 32)
          rw [show ([.int .i64 ln, .int .i64 ls, .int .i64 ld, .string lt] : List Value).toArray = #[.int .i64 ln, .int .i64 ls, .int .i64 ld, .string lt] from rfl] at HL5
          have HI5' := Lib.hid (HI.out.fr r5.fr (MX.out.net.off HI.out (by decide) (by decide)))
          have i1 : w5.cell? ⟨ga, 1, none⟩ = some (.int .i64 ta) := HI5'.out.cell 1
          clear hh h5 r5 i0 i2 i3 i4 HI5'
          go_upto_region 18 with (fail)
          generalize w5.heap.size = g5 at HL5 ⊢
          generalize w5.alloc (.cells #[.int .i64 ln, .int .i64 ls, .int .i64 ld, .string lt] 32) = w5' at M5 HI5 HL5 ⊢
          have i1 : w5'.cell? ⟨ga, 1, none⟩ = some (.int .i64 ta) := HI5.out.cell 1
          go_wp2_with fail
          have hh := rdeliver_any b2 u s ta w5' M5.out.ref MX.out.net.ok
          rw [HOP.out] at hh
          refine hh.mono ?_
          rintro e w6 ⟨rfl, u6, h6, r6⟩
          have hoff : ∀ {q : Nat} {cs : List Value} {T : TypeId}, Blk w5' q cs T → T ≠ 59 → T ≠ 48 → ¬ FieldS b2 u q := fun hB h1 h2 => M5.out.ref.off (fun cs hk => by rw [hB] at hk; simp at hk; exact h1 hk.2) (fun cs hk => by rw [hB] at hk; simp at hk; exact h2 hk.2)
          have M6 := Lib.hid ((M5.out.stepRef h6 r6).alloc (.cells #[.int .i64 ln, .int .i64 ls, .int .i64 ld, .string lt] 48))
          have HI6 := Lib.hid ((HI5.out.fr r6.fr (hoff HI5.out (by decide) (by decide))).alloc (.cells #[.int .i64 ln, .int .i64 ls, .int .i64 ld, .string lt] 48))
          have HL6 := Lib.hid ((HL5.out.fr r6.fr (hoff HL5.out (by decide) (by decide))).alloc (.cells #[.int .i64 ln, .int .i64 ls, .int .i64 ld, .string lt] 48))
          clear hh h6 r6 i1 hoff
          go_upto_region 19 with (fail)
          have HR6 := Lib.hid (Blk.new w6 [.int .i64 ln, .int .i64 ls, .int .i64 ld, .string lt] 48)
          rw [show ([.int .i64 ln, .int .i64 ls, .int .i64 ld, .string lt] : List Value).toArray = #[.int .i64 ln, .int .i64 ls, .int .i64 ld, .string lt] from rfl] at HR6
          generalize w6.heap.size = g6 at HR6 ⊢
          generalize w6.alloc (.cells #[.int .i64 ln, .int .i64 ls, .int .i64 ld, .string lt] 48) = w6' at M6 HI6 HL6 HR6 ⊢
          have y0 : w6'.cell? ⟨g5, 0, none⟩ = some (.int .i64 ln) := HL6.out.cell 0
          have y1 : w6'.cell? ⟨g5, 1, none⟩ = some (.int .i64 ls) := HL6.out.cell 1
          have y2 : w6'.cell? ⟨g5, 2, none⟩ = some (.int .i64 ld) := HL6.out.cell 2
          have y3 : w6'.cell? ⟨g5, 3, none⟩ = some (.string lt) := HL6.out.cell 3
          have z0 : w6'.cell? ⟨g6, 0, none⟩ = some (.int .i64 ln) := HR6.out.cell 0
          have z1 : w6'.cell? ⟨g6, 1, none⟩ = some (.int .i64 ls) := HR6.out.cell 1
          have z2 : w6'.cell? ⟨g6, 2, none⟩ = some (.int .i64 ld) := HR6.out.cell 2
          have z3 : w6'.cell? ⟨g6, 3, none⟩ = some (.string lt) := HR6.out.cell 3
          go_wp2_with fail
          go_meet
          exact ⟨rfl, n, v5, u6, s', by omega, hs', CC2, HI6, M6⟩
        · rcases hop : s.drop ta with ⟨s', j⟩
          have hs' : s'.sent ≤ k + 1 := by have := drop_facts hop; rcases this with ⟨_, _, h2⟩ | ⟨_, rfl⟩ <;> omega
          have HOP := Lib.hid hop
          have CC2 := Lib.hid (CutOk.drop CC.out hop)
          clear hop
          go_upto_region 21 with (fail)
          clear i0
          go_region_held3 (fun w' => w'.cell? ⟨ga, 1, none⟩ = some (.int .i64 ta) ∧ w'.cell? ⟨ga, 2, none⟩ = some (.int .i64 tb))
            (first | exact ⟨i1, i2⟩ | exact ⟨j1, j2⟩ | exact ⟨l1, l2⟩)
            (first
              | (go_at_call 18; have hh := drop_any b1 k1 n v s ta _ (MX.out.drewN 1).net; rw [HOP.out] at hh; refine hh.mono ?_; rintro e w5 ⟨rfl, v5, h5, r5⟩; have M5 := Lib.hid ((MX.out.drewN 1).stepNet h5 r5); have HI5 := Lib.hid (Blk.fr (HI.out.drewN 1) r5.fr ((MX.out.drewN 1).net.off (HI.out.drewN 1) (by decide) (by decide))); have j1 : w5.cell? ⟨ga, 1, none⟩ = some (.int .i64 ta) := HI5.out.cell 1; have j2 : w5.cell? ⟨ga, 2, none⟩ = some (.int .i64 tb) := HI5.out.cell 2; have j4 : w5.cell? ⟨ga, 4, none⟩ = some (.bool tc) := HI5.out.cell 4; clear hh h5 r5)
              | (go_at_call 19; have hh := rdrop_any b2 u s ta _ M5.out.ref MX.out.net.ok; rw [HOP.out] at hh; refine hh.mono ?_; rintro e w6 ⟨rfl, u6, h6, r6⟩; have M6 := Lib.hid (M5.out.stepRef h6 r6); have HI6 := Lib.hid (Blk.fr HI5.out r6.fr (M5.out.ref.off (fun cs hk => by rw [HI5.out] at hk; simp at hk) (fun cs hk => by rw [HI5.out] at hk; simp at hk))); have l1 : w6.cell? ⟨ga, 1, none⟩ = some (.int .i64 ta) := HI6.out.cell 1; have l2 : w6.cell? ⟨ga, 2, none⟩ = some (.int .i64 tb) := HI6.out.cell 2; have l4 : w6.cell? ⟨ga, 4, none⟩ = some (.bool tc) := HI6.out.cell 4; clear hh h6 r6))
          clear i1 i2 i3 i4 j1 j2 j4 l1 l2 l4
          go_wp2_with fail
          go_meet
          exact ⟨rfl, n, v5, u6, s', by omega, hs', CC2, HI6, M6⟩
        · rcases hop : s.double ta with ⟨s', j⟩
          have hs' : s'.sent ≤ k + 1 := by have := double_facts hop; rcases this with ⟨_, _, h2⟩ | ⟨_, rfl⟩ <;> omega
          have HOP := Lib.hid hop
          have CC2 := Lib.hid (CutOk.double CC.out hop)
          clear hop
          go_upto_region 23 with (fail)
          clear i0
          go_region_held3 (fun w' => w'.cell? ⟨ga, 1, none⟩ = some (.int .i64 ta) ∧ w'.cell? ⟨ga, 2, none⟩ = some (.int .i64 tb))
            (first | exact ⟨i1, i2⟩ | exact ⟨j1, j2⟩ | exact ⟨l1, l2⟩)
            (first
              | (go_at_call 20; have hh := double_any b1 k1 n v s ta _ (MX.out.drewN 1).net; rw [HOP.out] at hh; refine hh.mono ?_; rintro e w5 ⟨rfl, v5, h5, r5⟩; have M5 := Lib.hid ((MX.out.drewN 1).stepNet h5 r5); have HI5 := Lib.hid (Blk.fr (HI.out.drewN 1) r5.fr ((MX.out.drewN 1).net.off (HI.out.drewN 1) (by decide) (by decide))); have j1 : w5.cell? ⟨ga, 1, none⟩ = some (.int .i64 ta) := HI5.out.cell 1; have j2 : w5.cell? ⟨ga, 2, none⟩ = some (.int .i64 tb) := HI5.out.cell 2; have j4 : w5.cell? ⟨ga, 4, none⟩ = some (.bool tc) := HI5.out.cell 4; clear hh h5 r5)
              | (go_at_call 21; have hh := rdouble_any b2 u s ta _ M5.out.ref MX.out.net.ok; rw [HOP.out] at hh; refine hh.mono ?_; rintro e w6 ⟨rfl, u6, h6, r6⟩; have M6 := Lib.hid (M5.out.stepRef h6 r6); have HI6 := Lib.hid (Blk.fr HI5.out r6.fr (M5.out.ref.off (fun cs hk => by rw [HI5.out] at hk; simp at hk) (fun cs hk => by rw [HI5.out] at hk; simp at hk))); have l1 : w6.cell? ⟨ga, 1, none⟩ = some (.int .i64 ta) := HI6.out.cell 1; have l2 : w6.cell? ⟨ga, 2, none⟩ = some (.int .i64 tb) := HI6.out.cell 2; have l4 : w6.cell? ⟨ga, 4, none⟩ = some (.bool tc) := HI6.out.cell 4; clear hh h6 r6))
          clear i1 i2 i3 i4 j1 j2 j4 l1 l2 l4
          go_wp2_with fail
          go_meet
          exact ⟨rfl, n, v5, u6, s', by omega, hs', CC2, HI6, M6⟩
        · rcases hop : s.part ta tb tc with ⟨s', j⟩
          have hs' : s'.sent ≤ k + 1 := by have := part_facts hop; rw [this.2]; omega
          have HOP := Lib.hid hop
          have CC2 := Lib.hid (CutOk.part CC.out hop)
          clear hop
          go_upto_region 11 with (fail)
          clear i0
          go_region_held3 (fun w' => w'.cell? ⟨ga, 1, none⟩ = some (.int .i64 ta) ∧ w'.cell? ⟨ga, 2, none⟩ = some (.int .i64 tb) ∧ w'.cell? ⟨ga, 4, none⟩ = some (.bool tc))
            (first | exact ⟨i1, i2, i4⟩ | exact ⟨j1, j2, j4⟩ | exact ⟨l1, l2, l4⟩)
            (first
              | (go_at_call 13; have hh := part_any b1 k1 n v s ta tb tc wa.out wb.out _ (MX.out.drewN 1).net (by omega); rw [HOP.out] at hh; refine hh.mono ?_; rintro e w5 ⟨rfl, v5, h5, r5⟩; have M5 := Lib.hid ((MX.out.drewN 1).stepNet h5 r5); have HI5 := Lib.hid (Blk.fr (HI.out.drewN 1) r5.fr ((MX.out.drewN 1).net.off (HI.out.drewN 1) (by decide) (by decide))); have j1 : w5.cell? ⟨ga, 1, none⟩ = some (.int .i64 ta) := HI5.out.cell 1; have j2 : w5.cell? ⟨ga, 2, none⟩ = some (.int .i64 tb) := HI5.out.cell 2; have j4 : w5.cell? ⟨ga, 4, none⟩ = some (.bool tc) := HI5.out.cell 4; clear hh h5 r5)
              | (go_at_call 22; have hh := (rpart_any b2 u s ta tb tc _ M5.out.ref MX.out.net.ok).mono fun _ _ => RPost.of; rw [HOP.out] at hh; refine hh.mono ?_; rintro e w6 ⟨rfl, u6, h6, r6⟩; have M6 := Lib.hid (M5.out.stepRef h6 r6); have HI6 := Lib.hid (Blk.fr HI5.out r6.fr (M5.out.ref.off (fun cs hk => by rw [HI5.out] at hk; simp at hk) (fun cs hk => by rw [HI5.out] at hk; simp at hk))); have l1 : w6.cell? ⟨ga, 1, none⟩ = some (.int .i64 ta) := HI6.out.cell 1; have l2 : w6.cell? ⟨ga, 2, none⟩ = some (.int .i64 tb) := HI6.out.cell 2; have l4 : w6.cell? ⟨ga, 4, none⟩ = some (.bool tc) := HI6.out.cell 4; clear hh h6 r6))
          clear i1 i2 i3 i4 j1 j2 j4 l1 l2 l4
          go_wp2_with fail
          go_meet
          exact ⟨rfl, n + 1, v5, u6, s', by omega, hs', CC2, HI6, M6⟩
      obtain ⟨rfl, n', v', u', s', hn', hs', CC', HI', M'⟩ := hcut
      obtain ⟨UB, UD, hu⟩ := M'.out.ref.recs.slice
      rw [List.length_map] at hu
      have HU := Lib.hid hu
      have HLT := Lib.hid M'.out.lt
      have hlen := M'.out.net.ok.len
      clear hu i0 hsk hnk
      go_wp2_with fail
      refine (flying_any b1 k1 n' v' s' wc M'.out.net).mono ?_
      rintro e w5 ⟨v5, rfl, hr5, hb5⟩
      obtain ⟨A5, C5, h5⟩ := hr5.slice
      rw [List.length_map] at h5
      subst h5
      have R5 := Lib.hid hr5
      have M5 := Lib.hid (M'.out.below2 hb5)
      have HI5 := Lib.hid (HI'.out.below hb5 HI'.out.lt)
      clear hr5 hb5
      go_upto_region 25 with (fail)
      have hcc : (s'.knows ta tb && s'.cut (wayOf ta tb)) = s'.cut (wayOf ta tb) := by
        cases hkn : s'.knows ta tb
        · rw [CC'.out ta tb hkn]; rfl
        · rfl
      have E1 : Hid (∀ p os, Calls Try.prog 23 #[.slice A5 s'.fly.length C5, .slice UB s'.fly.length UD] (Go.Sort.grow (redrawn w5 p) os) fun e w'' => e = .returned (.bool true) ∧ ∃ q : Regrown, w'' = Go.Sort.grow (redrawn w5 q.d) q.os) := Lib.hid fun p os => by
        have hb := below_regrown w5 p os
        have hr := M5.out.ref.below hb (Nat.le_refl _)
        refine Calls.regrown_of ((same_any s'.fly A5 C5 UB UD _ 0 _ hlen (R5.out.fr (Fr.of_below (S := fun j => w5.heap.size ≤ j) hb fun _ e _ => e) (fun j e => by have := (R5.out.own.lt j e).2; omega)) (HU.out ▸ hr.recs)).mono ?_)
        rintro e w' ⟨h1, m, rfl⟩
        exact ⟨h1, below_drewN (Below.refl _ _) m⟩
      have E2 : Hid (∀ p os, Calls Try.prog 14 #[.pointer (some ⟨b1, 0, none⟩), .int .i64 ta, .int .i64 tb] (Go.Sort.grow (redrawn w5 p) os) fun e w'' => e = .returned (.bool (s'.cut (wayOf ta tb))) ∧ ∃ q : Regrown, w'' = Go.Sort.grow (redrawn w5 q.d) q.os) := Lib.hid fun p os => by
        have hN := M5.out.net.below (below_regrown w5 p os) (Nat.le_refl _)
        exact Calls.regrown_of (parted_any b1 k1 n' s'.cut ta tb wa.out wb.out _ (hN.at_.blk.cell 3) hN.lt.1 hN.at_.map)
      have E3 : Hid (∀ p os, Calls Try.prog 24 #[.pointer (some ⟨b2, 0, none⟩), .int .i64 ta, .int .i64 tb] (Go.Sort.grow (redrawn w5 p) os) fun e w'' => e = .returned (.bool (s'.cut (wayOf ta tb))) ∧ ∃ q : Regrown, w'' = Go.Sort.grow (redrawn w5 q.d) q.os) := Lib.hid fun p os => by
        have hR := M5.out.ref.below (below_regrown w5 p os) (Nat.le_refl _)
        have := rparted_any b2 u' s' ta tb _ hR M'.out.net.ok
        rw [hcc] at this
        exact Calls.regrown_of (this.mono fun e w' ⟨h1, h2⟩ => ⟨h1, h2 ▸ Below.refl _ _⟩)
      generalize s'.cut (wayOf ta tb) = qq at E2 E3
      have hqq : (qq != qq) = false := by cases qq <;> rfl
      have f0 := cell_regrown (HU.out ▸ M5.out.ref.c2 : w5.cell? ⟨b2, 2, none⟩ = some (.slice UB s'.fly.length UD))
      have f1 := cell_regrown (HI5.out.cell 1 : w5.cell? ⟨ga, 1, none⟩ = some (.int .i64 ta))
      have f2 := cell_regrown (HI5.out.cell 2 : w5.cell? ⟨ga, 2, none⟩ = some (.int .i64 tb))
      clear hcc
      refine wp_region_quiet_below (by kernel_rfl) (by kernel_rfl) ?_
      repeat (quiet_step (first | with_reducible exact E1.out _ _ | with_reducible exact E2.out _ _ | with_reducible exact E3.out _ _))
      refine wpQuiet_nil ?_
      intro _ hw'
      obtain ⟨⟨dq, osq⟩, hw''⟩ := hw'
      subst hw''
      have M6 := Lib.hid (M5.out.below2 (below_regrown w5 dq osq))
      have R6 : Hid (Recs (Go.Sort.grow (redrawn w5 dq) osq) wc.heap.size 32 4 (.slice A5 s'.fly.length C5) (s'.fly.map Letter.cells)) := Lib.hid (R5.out.fr (Fr.of_below (S := fun j => w5.heap.size ≤ j) (below_regrown w5 dq osq) fun _ e _ => e) (fun j e => by have := (R5.out.own.lt j e).2; omega))
      have HSW : Hid (W.heap.size ≤ wc.heap.size) := Lib.hid M'.out.below.size
      generalize Go.Sort.grow (redrawn w5 dq) osq = w6 at M6 R6 ⊢
      generalize wc.heap.size = B at HLT R6 HSW
      clear f0 f1 f2 E1 E2 E3 M' M5 R5 HI5 HI'
      go_wp2_with fail
      go_loopg [20] s'.fly.length (fun m kv wq => ∃ (i : Nat) (rs : List (List Value)), kv = .int .i64 i ∧ i ≤ s'.fly.length ∧ m = s'.fly.length - i ∧ rs.length = s'.fly.length ∧ Hid (Recs wq B 32 4 (.slice A5 s'.fly.length C5) rs) ∧ Hid (All W wq b1 k1 n' v' s' b2 u' s' b3 k3 (newNS nodes)))
      case atStart => exact ⟨0, s'.fly.map Letter.cells, rfl, Nat.zero_le _, rfl, by rw [List.length_map], R6, M6⟩
      case round =>
        obtain ⟨i, rs, rfl, hi, hm, hrl, RR, MM⟩ := hrel
        subst hm
        clear R6 M6
        by_cases hlt : i < s'.fly.length
        · obtain ⟨g, cap, hv, hgB, hgl, hc, hfz⟩ := RR.out.some (by omega)
          rw [hrl] at hv
          cases hv
          obtain ⟨r0, hr0⟩ : ∃ r0, rs[i]? = some r0 := ⟨rs[i]'(by omega), List.getElem?_eq_getElem _⟩
          have hr4 := RR.out.len r0 (List.mem_of_getElem? hr0)
          obtain ⟨t0, t1, t2, t3, rfl⟩ : ∃ t0 t1 t2 t3, r0 = [t0, t1, t2, t3] := by
            match r0, hr4 with
            | [t0, t1, t2, t3], _ => exact ⟨t0, t1, t2, t3, rfl⟩
          have c0 : wr.cell? ⟨g, i * 4, none⟩ = some t0 := hc i _ 0 _ hr0 rfl
          have c1 : wr.cell? ⟨g, i * 4 + 1, none⟩ = some t1 := hc i _ 1 _ hr0 rfl
          have c2 : wr.cell? ⟨g, i * 4 + 2, none⟩ = some t2 := hc i _ 2 _ hr0 rfl
          have c3 : wr.cell? ⟨g, i * 4 + 3, none⟩ = some t3 := hc i _ 3 _ hr0 rfl
          have fz : ∀ j, wr.frozen? ⟨g, j, none⟩ = false := hfz
          have hp := RR.out.put4 hr0 (.int .i64 (-9)) (.int .i64 0) (.int .i64 0) (.string ⟨#[]⟩)
          have HP := Lib.hid hp
          have hf : Fr wr ((((wr.setCell ⟨g, i * 4, none⟩ (.int .i64 (-9))).setCell ⟨g, i * 4 + 1, none⟩ (.int .i64 0)).setCell ⟨g, i * 4 + 2, none⟩ (.int .i64 0)).setCell ⟨g, i * 4 + 3, none⟩ (.string ⟨#[]⟩)) (fun j => j = g) := by
            refine Fr.setCell (Fr.setCell (Fr.setCell (Fr.setCell (Fr.refl wr (fun j => j = g)) ⟨g, i * 4, none⟩ (.int .i64 (-9)) ?_) ⟨g, i * 4 + 1, none⟩ (.int .i64 0) ?_) ⟨g, i * 4 + 2, none⟩ (.int .i64 0) ?_) ⟨g, i * 4 + 3, none⟩ (.string ⟨#[]⟩) ?_
            all_goals exact fun _ => rfl
          have HA := Lib.hid (MM.out.other HLT.out hf hgB (by have := HSW.out; omega))
          clear hc hfz hp hf hr0 hr4
          go_wp2_with fail
          go_roundg (s'.fly.length - (i + 1))
          case measure => omega
          case rel => exact ⟨i + 1, _, val_int (by omega), by omega, rfl, by rw [List.length_set]; exact hrl, HP, HA⟩
        · go_wp2_with fail
          go_roundg (sl - (k + 1))
          case measure => omega
          case rel => exact ⟨k + 1, n', v', u', s', val_int (by omega), by omega, rfl, hn', by omega, CC', MM⟩
    · obtain rfl : k = sl := by omega
      obtain ⟨UB, UD, hu⟩ := MM.out.ref.recs.slice
      rw [List.length_map] at hu
      have HU := Lib.hid hu
      have hlen := MM.out.net.ok.len
      clear hu HEL
      go_upto_region 31 with (fail)
      have c0 : wr.drew.cell? ⟨b2, 2, none⟩ = some (.slice UB s.fly.length UD) := HU.out ▸ MM.out.ref.c2
      have M0 : Hid (All W wr.drew b1 k1 n v s b2 u s b3 k3 (newNS nodes)) := Lib.hid (MM.out.drewN 1)
      go_region_held3 (fun w' => w'.cell? ⟨b2, 2, none⟩ = some (.slice UB s.fly.length UD))
        (first | exact c0 | exact c5 | exact c6 | exact c7)
        (first
          | (go_at_call 12; with_reducible refine Calls.mono (flying_any b1 k1 n v s _ M0.out.net) ?_; rintro e w5 ⟨v5, rfl, hr5, hb5⟩; obtain ⟨A5, C5, h5⟩ := hr5.slice; rw [List.length_map] at h5; subst h5; have R5 := Lib.hid hr5; have M5 := Lib.hid (M0.out.below2 hb5); have c5 : w5.cell? ⟨b2, 2, none⟩ = some (.slice UB s.fly.length UD) := HU.out ▸ M5.out.ref.c2; clear hr5 hb5)
          | (go_at_call 23; refine (same_any s.fly A5 C5 UB UD _ 0 _ hlen R5.out (HU.out ▸ M5.out.ref.recs)).mono ?_; rintro e w6 ⟨rfl, m6, rfl⟩; have M6 := Lib.hid (M5.out.drewN m6); have c6 : (w5.drewN m6).cell? ⟨b2, 2, none⟩ = some (.slice UB s.fly.length UD) := HU.out ▸ M6.out.ref.c2)
          | (go_at_call 12; with_reducible refine Calls.mono (flying_any b3 k3 0 _ (newNS nodes) _ M6.out.oth) ?_; rintro e w7 ⟨v7, rfl, hr7, hb7⟩; obtain ⟨A7, C7, h7⟩ := hr7.slice; rw [List.length_map] at h7; subst h7; have M7 := Lib.hid (M6.out.below2 hb7); have c7 : w7.cell? ⟨b2, 2, none⟩ = some (.slice UB s.fly.length UD) := HU.out ▸ M7.out.ref.c2; rw [show (newNS nodes).fly.length = 0 from rfl]; clear hr7 hb7))
      clear c0 c5 c6 c7
      go_wp2_with fail
      go_ret
      exact ⟨rfl, M7.out.below⟩
end Go.Proofs.Ytimaifehjgolmaa
