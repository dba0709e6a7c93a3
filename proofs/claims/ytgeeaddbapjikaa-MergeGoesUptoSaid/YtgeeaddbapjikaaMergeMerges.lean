/- The walk of MergeMerges. -/
import Derived.Test.YtgeeaddbapjikaaMgSpk
import Derived.Lib.QuietBelow
namespace Go.Proofs.Ytgeeaddbapjikaa
open Go.RowKit Go.Sort Go.Proofs.Ytgeeaddbapjikaa.St
set_option linter.unusedVariables false
set_option linter.unusedSimpArgs false
namespace Mg
theorem rsl_belowA {w w' : World} {cs : List Value} {xss : List (List Pr)} (h : RPrss w cs xss) (hb : Below w.heap.size w w') : RPrss w' cs xss := by
  obtain ⟨a', n', c', hv, h1, h2, h3, h4, h5, h6⟩ := h
  refine ⟨a', n', c', hv, h1, h2, h3, h4, h5, fun h0 => ?_⟩
  obtain ⟨b, off, e1, e2, e3⟩ := h6 h0
  refine ⟨b, off, e1, Nat.lt_of_lt_of_le e2 hb.size, fun j x hx => ?_⟩
  obtain ⟨es, k1, k2, k3⟩ := e3 j x hx
  refine ⟨es, k1, fun i cc hc => (hb.cell (p := ⟨b, off + (j * 1 + i), none⟩) e2).trans (k2 i cc hc), ?_⟩
  obtain ⟨a2, n2, c2, g1, g2, g3, g4, g5, g6, g7⟩ := k3
  refine ⟨a2, n2, c2, g1, g2, g3, g4, g5, g6, fun h0' => ?_⟩
  obtain ⟨b2, off2, q1, q2, q3⟩ := g7 h0'
  refine ⟨b2, off2, q1, Nat.lt_of_lt_of_le q2 hb.size, fun j2 x2 hx2 => ?_⟩
  obtain ⟨es2, r1, r2, r3⟩ := q3 j2 x2 hx2
  exact ⟨es2, r1, fun i cc hc => (hb.cell (p := ⟨b2, off2 + (j2 * 2 + i), none⟩) q2).trans (r2 i cc hc), r3⟩
theorem bulk_runs (xs : List (List Pr)) : xs.length + xs.flatten.length ≤ bulkL (bulkL fun x => vbulk (prc x)) xs := by
  unfold bulkL
  have : xs.length + xs.flatten.length ≤ (xs.map fun ps => (ps.map fun x => vbulk (prc x)).sum + 1).sum := by
    induction xs with
    | nil => simp
    | cons ps xs ih =>
      have h1 : ps.length ≤ (ps.map fun x => vbulk (prc x)).sum := by
        clear ih
        induction ps with
        | nil => simp
        | cons p ps ih2 =>
          rw [List.map_cons, List.sum_cons, List.length_cons]
          have : 1 ≤ vbulk (prc p) := by
            show 1 ≤ ([Value.string p.1, Value.string p.2].map vb).sum
            simp [vb]; omega
          omega
      rw [List.map_cons, List.sum_cons, List.length_cons, List.flatten_cons, List.length_append]
      omega
  omega
def rnOf (v : Value) (x : List Pr) : Rn :=
  match v with
  | .slice (some a) _ c => ⟨a.block, a.off, c, x⟩
  | .slice none _ c => ⟨0, 0, c, x⟩
  | _ => ⟨0, 0, 0, x⟩
theorem rnOf_ps (v : Value) (x : List Pr) : (rnOf v x).ps = x := by unfold rnOf; split <;> rfl
def runsOf (La : List Value) (xss : List (List Pr)) (i : Nat) : Rn := rnOf (La.getD i undef) (xss.getD i [])
theorem runsOf_ps (La : List Value) (xss : List (List Pr)) (i : Nat) : (runsOf La xss i).ps = xss.getD i [] := rnOf_ps _ _
theorem row_rn {w : World} {base : Nat} {e : TypeId} {v : Value} {x : List Pr} (h : RowOf w base e v x) (hx : 0 < x.length) : ∃ g c, v = .slice (some ⟨g, 0, none⟩) x.length c ∧ rnOf v x = ⟨g, 0, c, x⟩ ∧ g < w.heap.size ∧ x.length ≤ c ∧ ∀ k p, x[k]? = some p → w.cell? ⟨g, k * 2, none⟩ = some (.string p.1) ∧ w.cell? ⟨g, k * 2 + 1, none⟩ = some (.string p.2) := by
  rcases h with ⟨h0, _⟩ | ⟨_, hr⟩
  · omega
  · obtain ⟨g, cap, hv, _, hlt, hcell, _⟩ := hr.some (by rw [List.length_map]; exact hx)
    rw [List.length_map] at hv
    subst hv
    refine ⟨g, cap, rfl, rfl, hlt, ?_, fun k p hp => ⟨hcell k (prc p) 0 _ (by simp [hp]) rfl, hcell k (prc p) 1 _ (by simp [hp]) rfl⟩⟩
    exact own_cap hr.own (by rw [List.length_map])
theorem rows_runs {w : World} {base : Nat} {La : List Value} {xss : List (List Pr)} (h : RowsOf w base 33 La xss) : RunsAt w w.heap.size (runsOf La xss) := by
  have key : ∀ i, 0 < (runsOf La xss i).ps.length → ∃ v x, La[i]? = some v ∧ xss[i]? = some x ∧ 0 < x.length ∧ runsOf La xss i = rnOf v x ∧ RowOf w base 33 v x := fun i hi => by
    rw [runsOf_ps] at hi
    cases hx : xss[i]? with
    | none => rw [List.getD_eq_getElem?_getD, hx] at hi; simp at hi
    | some x =>
      have hl : i < La.length := by rw [h.1]; exact (List.getElem?_eq_some_iff.1 hx).1
      rw [List.getD_eq_getElem?_getD, hx] at hi
      refine ⟨La[i], x, List.getElem?_eq_getElem hl, rfl, hi, ?_, h.2 i _ x (List.getElem?_eq_getElem hl) hx⟩
      unfold runsOf
      rw [List.getD_eq_getElem?_getD, List.getD_eq_getElem?_getD, hx, List.getElem?_eq_getElem hl]
      rfl
  refine ⟨fun i hi => ?_, fun i k p hp => ?_, fun i => ?_⟩
  · obtain ⟨v, x, _, _, hx, e, hr⟩ := key i hi
    obtain ⟨g, c, _, e2, hlt, _⟩ := row_rn hr hx
    rw [e, e2]; exact hlt
  · obtain ⟨v, x, _, _, hx, e, hr⟩ := key i (by have := (List.getElem?_eq_some_iff.1 hp).1; omega)
    obtain ⟨g, c, _, e2, hlt, _, hc⟩ := row_rn hr hx
    rw [e, e2] at hp ⊢
    have := hc k p hp
    simp only [Nat.zero_add]
    exact this
  · by_cases hi : 0 < (runsOf La xss i).ps.length
    · obtain ⟨v, x, _, _, hx, e, hr⟩ := key i hi
      obtain ⟨g, c, _, e2, _, hc, _⟩ := row_rn hr hx
      rw [e, e2]; exact hc
    · omega
theorem rows_sl {W w : World} {n c : Nat} {A : Option Addr} {La : List Value} {xss : List (List Pr)} (hn : xss.length = n) (ho : w.ownsRow W.heap.size 29 1 (.slice A n c) n La) (h : RowsOf w W.heap.size 33 La xss) : RunSl w w.heap.size A n (runsOf La xss) := by
  refine ⟨fun i hi => ?_⟩
  obtain ⟨g, cap, hv, _, hlt, hC⟩ := own_some ho (by omega)
  cases hv
  have hl : i < La.length := by rw [h.1, hn]; exact hi
  have hx : xss[i]? = some (xss[i]'(by omega)) := List.getElem?_eq_getElem _
  have hv : La[i]? = some La[i] := List.getElem?_eq_getElem hl
  have hr := h.2 i _ _ hv hx
  have hcell : w.cell? ⟨g, 0 + i, none⟩ = some La[i] := by rw [Nat.zero_add]; exact (hC i (by omega)).1.trans (List.getElem?_eq_getElem hl)
  have hrn : runsOf La xss i = rnOf La[i] (xss[i]'(by omega)) := by
    unfold runsOf
    rw [List.getD_eq_getElem?_getD, List.getD_eq_getElem?_getD, hx, hv]; rfl
  refine ⟨g, 0, rfl, hlt, ?_⟩
  rw [hrn, rnOf_ps]
  by_cases h0 : 0 < (xss[i]'(by omega)).length
  · right
    obtain ⟨g2, c2, e1, e2, _⟩ := row_rn hr h0
    refine ⟨h0, ?_⟩
    rw [hcell, e2, e1]
  · left
    refine ⟨by omega, ?_⟩
    rcases hr with ⟨_, B, c2, e⟩ | ⟨h1, _⟩
    · exact ⟨B, c2, by rw [hcell, e]⟩
    · exact absurd h1 h0
theorem rows_doc {W w : World} {n c : Nat} {A : Option Addr} {La Lb : List Value} {xss : List (List Pr)} (hn : xss.length = n) (ho : w.ownsRow W.heap.size 27 1 (.slice A n c) n Lb) (h : RowsOf w W.heap.size 53 Lb xss) : DocAt w A n (runsOf La xss) := fun i hi => by
  obtain ⟨g, cap, hv, _, hlt, hC⟩ := own_some ho (by omega)
  cases hv
  have hl : i < Lb.length := by rw [h.1, hn]; exact hi
  have hx : xss[i]? = some (xss[i]'(by omega)) := List.getElem?_eq_getElem _
  have hr := h.2 i _ _ (List.getElem?_eq_getElem hl) hx
  have hcell : w.cell? ⟨g, 0 + i, none⟩ = some Lb[i] := by rw [Nat.zero_add]; exact (hC i (by omega)).1.trans (List.getElem?_eq_getElem hl)
  have hps : (runsOf La xss i).ps = xss[i]'(by omega) := by rw [runsOf_ps, List.getD_eq_getElem?_getD, hx]; rfl
  rw [hps]
  rcases hr with ⟨h0, B, c2, e⟩ | ⟨h1, hr⟩
  · exact ⟨g, 0, B, c2, rfl, hlt, by rw [hcell, e, h0], fun k x hk => by have := (List.getElem?_eq_some_iff.1 hk).1; omega⟩
  · obtain ⟨A2, c2, e⟩ := hr.slice
    rw [e] at hr
    rw [List.length_map] at e hr
    obtain ⟨_, hp⟩ := PsAt.of_recs hr
    exact ⟨g, 0, A2, c2, rfl, hlt, by rw [hcell, e], hp⟩
theorem todo_runs (La : List Value) (xss : List (List Pr)) : ∀ n, n ≤ xss.length → todo (runsOf La xss) (fun _ => 0) n = (xss.take n).flatten.length
  | 0, _ => rfl
  | n + 1, h => by
    rw [todo_succ, todo_runs La xss n (by omega), List.take_succ_eq_append_getElem (by omega), List.flatten_append, List.length_append, runsOf_ps]
    rw [List.getD_eq_getElem?_getD, List.getElem?_eq_getElem (by omega)]
    simp
/-- what holds of the copies in every later world -/
structure Both (W w : World) (n ca cb : Nat) (Aa Ab : Option Addr) (R : Nat → Rn) : Prop where
  sl : RunSl w w.heap.size Aa n R
  runs : RunsAt w w.heap.size R
  doc : DocAt w Ab n R
  below : Below W.heap.size W w
theorem Both.new {W w w' : World} {n ca cb : Nat} {Aa Ab : Option Addr} {R : Nat → Rn} (h : Both W w n ca cb Aa Ab R) (hb : Below w.heap.size w w') : Both W w' n ca cb Aa Ab R :=
  ⟨(h.sl.below hb).mono hb.size, (h.runs.below hb).mono hb.size, h.doc.below hb, below_then h.below h.below.size hb⟩
theorem run_ps {w : World} {A : Option Addr} {n : Nat} {R : Nat → Rn} (h : RunSl w w.heap.size A n R) (hR : RunsAt w w.heap.size R) (i : Nat) (hi : i < n) : ∃ g off Ar cr, A = some ⟨g, off, none⟩ ∧ g < w.heap.size ∧ w.cell? ⟨g, off + i, none⟩ = some (.slice Ar (R i).ps.length cr) ∧ PsAt w Ar (R i).ps := by
  obtain ⟨g, off, hA, hg, ⟨h0, B, c, hc⟩ | ⟨h0, hc⟩⟩ := h.el i hi
  · exact ⟨g, off, B, c, hA, hg, by rw [hc, h0], fun k x hk => by have := (List.getElem?_eq_some_iff.1 hk).1; omega⟩
  · exact ⟨g, off, _, _, hA, hg, hc, fun k x hk => ⟨(R i).b, (R i).o, rfl, hR.lt i h0, (hR.cells i k x hk).1, (hR.cells i k x hk).2⟩⟩
set_option maxRecDepth 20000 in
set_option maxHeartbeats 8000000 in
theorem mergeMerges_walk (W : World) (A : Option Addr) (n c : Nat) (xss : List (List Pr)) (hx : RPrss W [.slice A n c] xss) (hbk : bulkL (bulkL fun x => vbulk (prc x)) xss ≤ 1048576) :
    Calls Try.prog 3 #[.slice A n c] W fun e w' => e = .returned (.bool true) ∧ Below W.heap.size W w' := by
  have hbl := bulk_runs xss
  have hlen : xss.length = n := by obtain ⟨a', n', c', hv, h1, _⟩ := hx; cases hv; exact h1
  have hn : n ≤ 1048576 := by omega
  have hel : ∀ xs ∈ xss, xs.length ≤ 1048576 := fun xs hm => by
    have : xs.length ≤ xss.flatten.length := by
      obtain ⟨j, hj⟩ := List.mem_iff_getElem?.1 hm
      have h1 := List.getElem?_eq_some_iff.1 hj
      rw [← List.take_append_drop j xss, List.drop_eq_getElem_cons h1.1, List.flatten_append, List.flatten_cons, h1.2]
      simp; omega
    omega
  have hfl : xss.flatten.length ≤ 1048576 := by omega
  have HX := Lib.hid hx
  have HN := Lib.hid hn
  have HEL := Lib.hid hel
  have HFL := Lib.hid hfl
  have HLEN := Lib.hid hlen
  clear hx hbk hbl hlen hn hel hfl
  go_enter Try.func3, Try.ntmps3
  go_wp2_with fail
  refine (speaks_c W).mono ?_
  rintro e w1 ⟨rfl, hb1⟩
  have HB1 := Lib.hid hb1
  clear hb1
  have HCP := Lib.hid (copied_c w1 A n c xss (rsl_belowA HX.out HB1.out) HN.out HEL.out)
  go_wp2_with fail
  refine HCP.out.mono ?_
  rintro e w2 ⟨va, vb, La, Lb, rfl, hC⟩
  obtain ⟨Aa, ca, rfl⟩ := own_slice hC.a
  obtain ⟨Ab, cb, rfl⟩ := own_slice hC.b
  have htk : xss.take n = xss := List.take_of_length_le (by rw [HLEN.out]; exact Nat.le_refl _)
  have hra := hC.ra
  have hrb := hC.rb
  rw [htk] at hra hrb
  have HBO : Hid (Both W w2 n ca cb Aa Ab (runsOf La xss)) := Lib.hid ⟨rows_sl HLEN.out hC.a hra, rows_runs hra, rows_doc HLEN.out hC.b hrb, below_then HB1.out HB1.out.size hC.below⟩
  have HTD : Hid ((out (runsOf La xss) n (todo (runsOf La xss) (fun _ => 0) n) fun _ => 0).length ≤ 1048576) := Lib.hid (by
    rw [out_len rfl, todo_runs La xss n (Nat.le_of_eq HLEN.out.symm), htk]; exact HFL.out)
  have HPL : Hid (∀ i, i < n → ((runsOf La xss) i).ps.length ≤ 1048576) := Lib.hid (fun i hi => by
    rw [runsOf_ps, List.getD_eq_getElem?_getD, List.getElem?_eq_getElem (by rw [HLEN.out]; exact hi)]
    exact HEL.out _ (List.getElem_mem _))
  clear hC hra hrb htk HCP HX HEL
  generalize hR : runsOf La xss = R at *
  clear hR
  generalize hOO : (out R n (todo R (fun _ => 0) n) fun _ => 0) = O at HTD
  have HOO := Lib.hid hOO
  clear hOO
  have HRM := Lib.hid (rmerge_c w2 Ab n cb R HBO.out.doc HN.out (by rw [HOO.out]; exact HTD.out) HPL.out)
  rw [HOO.out] at HRM
  go_wp2_with fail
  refine HRM.out.mono ?_
  rintro e w3 ⟨v3, rfl, hr3, hb3⟩
  have HB3 := Lib.hid (HBO.out.new hb3)
  obtain ⟨A3, c3, hv3⟩ := hr3.slice
  subst hv3
  obtain ⟨hl3, hp3⟩ := PsAt.of_recs hr3
  rw [hl3]
  have HP3 := Lib.hid hp3
  clear hr3 hb3 hl3 hp3 HRM HBO
  have HMC := fun w (h : Both W w n ca cb Aa Ab R) => Lib.hid (merge_c w w.heap.size Aa n ca R HN.out (by rw [HOO.out]; exact HTD.out) h.sl h.runs (Nat.le_refl _))
  simp only [HOO.out] at HMC
  go_wp2_with fail
  refine (HMC w3 HB3.out).out.mono ?_
  rintro e w4 ⟨v4, rfl, hr4, hb4⟩
  obtain ⟨A4, c4, hv4⟩ := hr4.slice
  rw [List.length_map] at hv4
  subst hv4
  have HR4 := Lib.hid hr4
  have HB34 := Lib.hid hb4
  have HF4 : Hid (∀ k, (Value.slice A4 O.length c4).ownBlock = some k → w3.heap.size ≤ k ∧ k < w4.heap.size) := Lib.hid fun k e => by have := hr4.own.lt k e; exact ⟨this.1, this.2⟩
  clear hr4 hb4
  go_wp2_with fail
  refine (HMC w4 (HB3.out.new HB34.out)).out.mono ?_
  rintro e w5 ⟨v5, rfl, hr5, hb5⟩
  have HB35 : Hid (Below w3.heap.size w3 w5) := Lib.hid (below_then HB34.out HB34.out.size hb5)
  have HR45 : Hid (Recs w5 w3.heap.size 33 2 (.slice A4 O.length c4) (O.map prc)) := Lib.hid ⟨own_below HR4.out.own hb5 (Nat.le_refl _), HR4.out.len⟩
  obtain ⟨A5, c5, hv5⟩ := hr5.slice
  rw [List.length_map] at hv5
  subst hv5
  have HR5 := Lib.hid hr5
  have HZ := Lib.hid HB34.out.size
  clear hr5 hb5 HR4 HB34
  have HS1 := Lib.hid (same_c w5 A4 A3 c4 c3 O O (PsAt.of_recs HR45.out).2 (HP3.out.below HB35.out) HTD.out HTD.out)
  rw [decide_eq_true (rfl : O = O)] at HS1
  go_wp2_with fail
  refine HS1.out.mono ?_
  rintro e w6 ⟨rfl, hb6⟩
  have HB36 : Hid (Below w3.heap.size w3 w6) := Lib.hid (HB35.out.trans (hb6.mono HB35.out.size))
  have HR46 : Hid (Recs w6 w3.heap.size 33 2 (.slice A4 O.length c4) (O.map prc)) := Lib.hid ⟨own_below HR45.out.own hb6 (Nat.le_refl _), HR45.out.len⟩
  have HR56 : Hid (Recs w6 w4.heap.size 33 2 (.slice A5 O.length c5) (O.map prc)) := Lib.hid ⟨own_below HR5.out.own hb6 (Nat.le_refl _), HR5.out.len⟩
  clear hb6 HR45 HR5 HB35 HS1
  have HS2 := Lib.hid (same_c w6 A5 A3 c5 c3 O O (PsAt.of_recs HR56.out).2 (HP3.out.below HB36.out) HTD.out HTD.out)
  rw [decide_eq_true (rfl : O = O)] at HS2
  go_wp2_with fail
  refine HS2.out.mono ?_
  rintro e w7 ⟨rfl, hb7⟩
  have HB37 : Hid (Below w3.heap.size w3 w7) := Lib.hid (HB36.out.trans (hb7.mono HB36.out.size))
  have HR47 : Hid (Recs w7 w3.heap.size 33 2 (.slice A4 O.length c4) (O.map prc)) := Lib.hid ⟨own_below HR46.out.own hb7 (Nat.le_refl _), HR46.out.len⟩
  have HR57 : Hid (Recs w7 w4.heap.size 33 2 (.slice A5 O.length c5) (O.map prc)) := Lib.hid ⟨own_below HR56.out.own hb7 (Nat.le_refl _), HR56.out.len⟩
  clear hb7 HR46 HR56 HB36 HS2
  go_wp2_with fail
  go_loopg [8] O.length (fun gg iv wr => ∃ (i : Nat) (rs : List (List Value)), iv = .int .i64 i ∧ i ≤ O.length ∧ gg = O.length - i ∧ rs.length = O.length ∧ Hid (Recs wr w3.heap.size 33 2 (.slice A4 O.length c4) rs) ∧ Hid (Recs wr w4.heap.size 33 2 (.slice A5 O.length c5) (O.map prc)) ∧ Hid (Below w3.heap.size w3 wr))
  case atStart => exact ⟨0, O.map prc, rfl, Nat.zero_le _, rfl, by simp, HR47, HR57, HB37⟩
  case round =>
    clear HR47 HR57 HB37
    obtain ⟨i, rs, rfl, hi, hg, hrs, HRA, HRB, HBX⟩ := hrel
    have HG := Lib.hid hg
    have HRS := Lib.hid hrs
    clear hg
    by_cases h : i < O.length
    · obtain ⟨r, hr⟩ : ∃ r, rs[i]? = some r := ⟨rs[i]'(by omega), List.getElem?_eq_getElem _⟩
      have hr2 := HRA.out.len r (List.mem_of_getElem? hr)
      obtain ⟨x0, x1, rfl⟩ : ∃ x0 x1, r = [x0, x1] := by
        match r, hr2 with
        | [x0, x1], _ => exact ⟨x0, x1, rfl⟩
      obtain ⟨g, cap, hv, _, hgl, hcell, hfz⟩ := HRA.out.some (by omega)
      rw [hrs] at hv
      have hgA : A4 = some ⟨g, 0, none⟩ := by cases hv; rfl
      subst hgA
      have a0 : wr.cell? ⟨g, i * 2, none⟩ = some x0 := hcell i _ 0 _ hr rfl
      have a1 : wr.cell? ⟨g, i * 2 + 1, none⟩ = some x1 := hcell i _ 1 _ hr rfl
      have hcc : c4 = cap := by cases hv; rfl
      have HRR := Lib.hid hr
      have hput := HRA.out
      have HFG := Lib.hid (HF4.out g rfl)
      have HP2 : Hid (Recs ((wr.setCell ⟨g, i * 2, none⟩ (.string ⟨#[115, 112, 111, 105, 108, 116]⟩)).setCell ⟨g, i * 2 + 1, none⟩ (.string ⟨#[]⟩)) w3.heap.size 33 2 (.slice (some ⟨g, 0, none⟩) O.length c4) (rs.set i [.string ⟨#[115, 112, 111, 105, 108, 116]⟩, .string ⟨#[]⟩])) := Lib.hid (HRA.out.put2 hr _ _)
      have hfr : Fr wr ((wr.setCell ⟨g, i * 2, none⟩ (.string ⟨#[115, 112, 111, 105, 108, 116]⟩)).setCell ⟨g, i * 2 + 1, none⟩ (.string ⟨#[]⟩)) (fun j => j = g) := ((Fr.refl wr (fun j => j = g)).setCell ⟨g, i * 2, none⟩ _ fun _ => rfl).setCell ⟨g, i * 2 + 1, none⟩ _ fun _ => rfl
      have HP3' : Hid (Recs ((wr.setCell ⟨g, i * 2, none⟩ (.string ⟨#[115, 112, 111, 105, 108, 116]⟩)).setCell ⟨g, i * 2 + 1, none⟩ (.string ⟨#[]⟩)) w4.heap.size 33 2 (.slice A5 O.length c5) (O.map prc)) := Lib.hid (HRB.out.fr hfr fun k e e' => by have h1 := (HRB.out.own.lt k e).1; have := HFG.out.2; omega)
      have HP4 : Hid (Below w3.heap.size w3 ((wr.setCell ⟨g, i * 2, none⟩ (.string ⟨#[115, 112, 111, 105, 108, 116]⟩)).setCell ⟨g, i * 2 + 1, none⟩ (.string ⟨#[]⟩))) := Lib.hid (HBX.out.trans (hfr.below (fun j _ e => by rw [e]; exact HFG.out.1) HBX.out.size))
      have fz : ∀ j, wr.frozen? ⟨g, j, none⟩ = false := hfz
      clear hcell hfz hv hr hr2 hput hfr hgl hcc HRA HRB HBX
      go_wp2_with fail
      go_roundg (O.length - (i + 1))
      case measure => have := HG.out; omega
      case rel => exact ⟨i + 1, _, congrArg (Value.int .i64) (lt_i64 hi HTD.out).1, h, rfl, by rw [List.length_set]; exact HRS.out, HP2, HP3', HP4⟩
    · clear HRA HG HRS hi hrs
      have HB8 := Lib.hid (HB3.out.new HBX.out)
      go_wp2_with fail
      generalize wr = wq at *
      go_loopg [9] n (fun gg jv wr2 => ∃ j : Nat, jv = .int .i64 j ∧ j ≤ n ∧ gg = n - j ∧ Hid (Below wq.heap.size wq wr2))
      case atStart => exact ⟨0, rfl, Nat.zero_le _, rfl, Lib.hid (Below.refl _ _)⟩
      case round =>
        obtain ⟨j, rfl, hj, hg, HBJ⟩ := hrel
        have HG := Lib.hid hg
        clear hg
        have HBB := Lib.hid (HB8.out.new HBJ.out)
        by_cases hlt : j < n
        · obtain ⟨g1, o1, Ar, cr, rfl, hg1, k1, hp1⟩ := run_ps HBB.out.sl HBB.out.runs j hlt
          obtain ⟨g2, o2, Ad, cd, rfl, hg2, k2, hp2⟩ := HBB.out.doc j hlt
          have k1' := cell_regrown k1
          have k2' := cell_regrown k2
          have LS := fun d os => Lib.hid (Calls.regrown_of (w := wr) (d := d) (os := os) (v := .bool true) (by
            have h1 := same_c (grow (redrawn wr d) os) Ar Ad cr cd (R j).ps (R j).ps (hp1.below (below_regrown wr d os)) (hp2.below (below_regrown wr d os)) (HPL.out j hlt) (HPL.out j hlt)
            rw [decide_eq_true (rfl : (R j).ps = (R j).ps)] at h1
            exact h1))
          have HLT := Lib.hid hlt
          clear hp1 hp2 hg1 hg2 k1 k2
          go_upto_region 15 with (fail)
          refine wp_region_quiet_below (by kernel_rfl) (by kernel_rfl) ?_
          repeat (quiet_step (first | with_reducible exact (LS _ _).out))
          refine wpQuiet_nil ?_
          intro _ hw''
          obtain ⟨⟨dq, osq⟩, hw3⟩ := hw''
          subst hw3
          have HBN : Hid (Below wq.heap.size wq (grow (redrawn wr dq) osq)) := Lib.hid (below_then HBJ.out HBJ.out.size (below_regrown wr dq osq))
          generalize hw2 : grow (redrawn wr { d := dq, os := osq : Regrown }.d) { d := dq, os := osq : Regrown }.os = wn
          change grow (redrawn wr dq) osq = wn at hw2
          rw [hw2] at HBN
          clear hw2 k1' k2' LS HBJ HBB
          go_wp2_with fail
          go_roundg (n - (j + 1))
          case measure => have := HG.out; omega
          case rel => exact ⟨j + 1, congrArg (Value.int .i64) (lt_i64 hj HN.out).1, HLT.out, rfl, HBN⟩
        · have HRC : Hid (Recs wr w4.heap.size 33 2 (.slice A5 O.length c5) (O.map prc)) := Lib.hid ⟨own_below HRB.out.own HBJ.out (Nat.le_refl _), HRB.out.len⟩
          have HBX2 : Hid (Below w3.heap.size w3 wr) := Lib.hid (below_then HBX.out HBX.out.size HBJ.out)
          have HS3 := Lib.hid (same_c wr A5 A3 c5 c3 O O (PsAt.of_recs HRC.out).2 (HP3.out.below HBX2.out) HTD.out HTD.out)
          rw [decide_eq_true (rfl : O = O)] at HS3
          have hx1 : ¬ (j : Int) < (n : Int) := fun e => hlt (Int.ofNat_lt.1 e)
          have hx3 : decide (j < n) = false := decide_eq_false hlt
          clear HRB HBX HB8 hlt hj HG
          go_wp2_with fail
          refine HS3.out.mono ?_
          rintro e w10 ⟨rfl, hb10⟩
          have HB10 := Lib.hid (HBB.out.new hb10)
          have HBX3 : Hid (Below w3.heap.size w3 w10) := Lib.hid (HBX2.out.trans (hb10.mono HBX2.out.size))
          clear hb10 HS3
          go_wp2_with fail
          refine (HMC w10 HB10.out).out.mono ?_
          rintro e w11 ⟨v11, rfl, hr11, hb11⟩
          obtain ⟨A11, c11, hv11⟩ := hr11.slice
          rw [List.length_map] at hv11
          subst hv11
          have HS4 := Lib.hid (same_c w11 A11 A3 c11 c3 O O (PsAt.of_recs hr11).2 (HP3.out.below (HBX3.out.trans (hb11.mono HBX3.out.size))) HTD.out HTD.out)
          rw [decide_eq_true (rfl : O = O)] at HS4
          have HB11 := Lib.hid (HB10.out.new hb11)
          clear hr11 hb11
          go_wp2_with fail
          refine HS4.out.mono ?_
          rintro e w12 ⟨rfl, hb12⟩
          have HB12 := Lib.hid (HB11.out.new hb12)
          clear hb12 HS4
          go_wp2_with fail
          go_ret
          exact ⟨rfl, HB12.out.below⟩
end Mg
theorem mergeMerges_walk (W : World) (A : Option Addr) (n c : Nat) (xss : List (List Mg.Pr)) (hx : Mg.RPrss W [.slice A n c] xss) (hbk : bulkL (bulkL fun x => vbulk (Mg.prc x)) xss ≤ 1048576) :
    Calls Try.prog 3 #[.slice A n c] W fun e w' => e = .returned (.bool true) ∧ Below W.heap.size W w' := Mg.mergeMerges_walk W A n c xss hx hbk
end Go.Proofs.Ytgeeaddbapjikaa
