/- WhereSpreads: places that stand apart, as new memory each time: the walk. (Under way.) -/
import Derived.Test.YtgblbhbmeflckaaRSpread
import Derived.Deep.RegionHeld3
import Derived.Lib.QuietBelow
namespace Go.Proofs.Ytgblbhbmeflckaa
open Go.RowKit Go.Lib St Fl
set_option linter.unusedVariables false
set_option linter.unusedSimpArgs false
theorem RPts.below {w w' : World} {a : Option Addr} {n c N : Nat} {ps : List Pt} (h : RPts w [.slice a n c] ps) (hb : Below N w w') (hN : w.heap.size ≤ N) : RPts w' [.slice a n c] ps := by
  obtain ⟨a', n', c', hv, h1, h2, h3, h4, h5, h6⟩ := h
  refine ⟨a', n', c', hv, h1, h2, h3, h4, h5, fun h0 => ?_⟩
  obtain ⟨b, off, e1, e2, e3⟩ := h6 h0
  refine ⟨b, off, e1, by have := hb.size; omega, fun j x hx => ?_⟩
  obtain ⟨es, k1, k2, k3⟩ := e3 j x hx
  exact ⟨es, k1, fun i cc hc => (hb.cell (p := ⟨b, off + (j * 3 + i), none⟩) (by show b < N; omega)).trans (k2 i cc hc), k3⟩
theorem opens_points (w : World) : Opens Try.prog w 37 RPts (bulkL fun (p : Pt) => vbulk p.cells) :=
  opens_slice Try.underlying37 (by kernel_rfl) (by kernel_rfl) (by decide) (opens_pt w)
/-- the parts of the places of a list -/
def reL (ps : List Pt) (i : Nat) : Nat := (ps[i]?).elim 0 fun p => word p.raw p.x
def imL (ps : List Pt) (i : Nat) : Nat := (ps[i]?).elim 0 fun p => word p.raw p.y
theorem pts_get {ps : List Pt} {i : Nat} (h : i < ps.length) : (ps.map Pt.c)[i]? = some (.complex .f64 (reL ps i) (imL ps i)) := by
  rw [List.getElem?_map, List.getElem?_eq_getElem h]
  unfold reL imL
  rw [List.getElem?_eq_getElem h]
  rfl
theorem frNone_below {w w' : World} {B : Nat} (h : Fr w w' (fun _ => False)) (hs : B ≤ w.heap.size) : Below B w w' := h.below (fun _ _ e => e.elim) hs
theorem rows_at {w : World} {B n cap : Nat} {e : TypeId} {q : Option Addr} {xs : List Value} (h : w.ownsRow B e 1 (.slice q n cap) n xs) :
    ∃ g, (0 < n → q = some ⟨g, 0, none⟩) ∧ (0 < n → g < w.heap.size) ∧ ∀ i, i < n → w.cell? ⟨g, i, none⟩ = xs[i]? := by
  by_cases h0 : 0 < n
  · obtain ⟨g, c, hq, _, hl, hC⟩ := own_some h h0
    cases hq
    exact ⟨g, fun _ => rfl, fun _ => hl, fun i hi => h.cellAt i (by omega)⟩
  · exact ⟨0, fun h => absurd h h0, fun h => absurd h h0, fun i hi => by omega⟩
theorem spr_len (D : Nat → Nat → Int) (n : Int) : ∀ (fuel : Nat) (out near : List Nat), (spr D n fuel out near).length ≤ out.length + fuel
  | 0, out, near => Nat.le_refl _
  | f + 1, out, near => by
    unfold spr
    split
    · refine Nat.le_trans (spr_len D n f _ _) ?_
      rw [List.length_append]
      simp only [List.length_cons, List.length_nil]
      omega
    · omega
theorem spreadL_len (zr zi : Nat) (re im : Nat → Nat) (n : Nat) (k : Int) : (spreadL zr zi re im n k).length ≤ n := by
  unfold spreadL
  refine Nat.le_trans (spr_len _ _ _ _ _) ?_
  have := List.length_filter_le (fun j => !decide (distI (pl zr) (pl zi) (pl (re j)) (pl (im j)) < 0)) (nearN zr zi re im n)
  rw [nearN_len] at this
  show 0 + (keepS zr zi re im (nearN zr zi re im n)).length ≤ n
  unfold keepS
  omega
set_option maxRecDepth 20000 in
set_option maxHeartbeats 8000000 in
theorem whereSpreads_walk (W : World) (cp : Array Value) (p : Pt) (hp : RPt W cp.toList p) (a : Option Addr) (n c : Nat) (ps : List Pt) (hps : RPts W [.slice a n c] ps) (k : Int) (wk : (Lit.int .i64 k).wf = true) :
    Calls Try.prog 9 #[.agg cp, .slice a n c, .int .i64 k] W fun e w' => e = .returned (.bool true) ∧ Below W.heap.size W w' := by
  obtain ⟨px, py, pr⟩ := p
  obtain rfl : cp = #[.int .i64 px, .int .i64 py, .bool pr] := Array.toList_inj.1 hp.1
  obtain ⟨hlen, hnc, hcb, hcm, hget⟩ := rsl_get hps
  have HPS := Lib.hid hps
  have HGET := Lib.hid hget
  have HLEN := Lib.hid hlen
  have HN := Lib.hid (show n ≤ 5864062014976 by omega)
  clear wk hp hps hcb hcm hnc hlen hget
  have hB0 := Lib.hid (Blk.new W [.int .i64 px, .int .i64 py, .bool pr] 23)
  have hb0 := Lib.hid ((Below.refl W.heap.size W).alloc (Nat.le_refl _) (.cells #[.int .i64 px, .int .i64 py, .bool pr] 23))
  go_enter Try.func9, Try.ntmps9
  go_upto_region 1 with (fail)
  change Code.wp _ _ _ _ (W.alloc (.cells #[.int .i64 px, .int .i64 py, .bool pr] 23))
  change Hid (Blk (W.alloc (.cells #[.int .i64 px, .int .i64 py, .bool pr] 23)) W.heap.size [.int .i64 px, .int .i64 py, .bool pr] 23) at hB0
  generalize W.alloc (.cells #[.int .i64 px, .int .i64 py, .bool pr] 23) = w1 at hB0 hb0 ⊢
  go_wp2_with fail
  refine (speaks_any w1).mono ?_
  rintro _ _ ⟨rfl, rfl⟩
  go_wp2_with fail
  refine (numbers_c ps a n c w1 (HPS.out.below hb0.out (Nat.le_refl _))).mono ?_
  rintro _ w3 ⟨v, rfl, hb3, ho⟩
  rw [HLEN.out] at ho
  obtain ⟨q, cap, rfl⟩ := own_slice ho
  obtain ⟨g, hq, hgl, hgc⟩ := rows_at ho
  have HQ := Lib.hid hq
  have HGL := Lib.hid hgl
  have HC3 : Hid (∀ X, Below w3.heap.size w3 X → ∀ i, i < n → X.cell? ⟨g, i, none⟩ = some (.complex .f64 (reL ps i) (imL ps i))) := Lib.hid fun X h i hi => by
    rw [h.cell (p := ⟨g, i, none⟩) (hgl (by omega)), hgc i hi]
    exact pts_get (by rw [HLEN.out]; exact hi)
  have HB3 := Lib.hid (below_then hb0.out hb0.out.size hb3)
  have A0 : ∀ X, Below w3.heap.size w3 X → X.cell? ⟨W.heap.size, 0, none⟩ = some (.int .i64 px) := fun X h => ((hB0.out.below hb3 hB0.out.lt).below h (Nat.lt_of_lt_of_le hB0.out.lt hb3.size)).cell 0
  have A1 : ∀ X, Below w3.heap.size w3 X → X.cell? ⟨W.heap.size, 1, none⟩ = some (.int .i64 py) := fun X h => ((hB0.out.below hb3 hB0.out.lt).below h (Nat.lt_of_lt_of_le hB0.out.lt hb3.size)).cell 1
  have A2 : ∀ X, Below w3.heap.size w3 X → X.cell? ⟨W.heap.size, 2, none⟩ = some (.bool pr) := fun X h => ((hB0.out.below hb3 hB0.out.lt).below h (Nat.lt_of_lt_of_le hB0.out.lt hb3.size)).cell 2
  have HK : Hid (∀ X Y, Below w3.heap.size w3 X → Below X.heap.size X Y → Below w3.heap.size w3 Y) := Lib.hid fun X Y h k => below_then h h.size k
  have S0 : Hid (Below w3.heap.size w3 w3.drew) := Lib.hid (below_drewN (Below.refl w3.heap.size w3) 1)
  have KA : Hid (∀ X o, Below w3.heap.size w3 X → Below w3.heap.size w3 (X.alloc o)) := Lib.hid fun X o h => h.alloc h.size o
  generalize hzr : word pr px = zr
  generalize hzi : word pr py = zi
  have HNUM : Hid (∀ X, Calls Try.prog 12 #[.agg #[.int .i64 px, .int .i64 py, .bool pr]] X fun e w' => e = .returned (.complex .f64 zr zi) ∧ Below X.heap.size X w') := Lib.hid fun X => by
    have := number_any px py pr X
    rw [hzr, hzi] at this
    exact this
  clear hzr hzi hq hgl hgc ho
  have z0 := A0 w3 (Below.refl _ _)
  have z1 := A1 w3 (Below.refl _ _)
  have z2 := A2 w3 (Below.refl _ _)
  obtain ⟨lst, hlst⟩ : ∃ lst, lst = natI (spreadL zr zi (reL ps) (imL ps) n k) := ⟨_, rfl⟩
  have HSP : Hid (∀ X, Below w3.heap.size w3 X → Calls Try.prog 24 #[.complex .f64 zr zi, .slice q n cap, .int .i64 k] X fun e w' => ∃ v, e = .returned v ∧ w'.ownsRow X.heap.size 3 1 v lst.length (ints lst) ∧ Below X.heap.size X w') := Lib.hid fun X h => by
    rw [hlst]
    exact spread_c zr zi q g n cap (reL ps) (imL ps) k X HQ.out (fun h0 => Nat.lt_of_lt_of_le (HGL.out h0) h.size) (HC3.out X h) (by have := HN.out; omega)
  have HRS : Hid (∀ X, Below w3.heap.size w3 X → Calls Try.prog 23 #[.complex .f64 zr zi, .slice q n cap, .int .i64 k] X fun e w' => ∃ v, e = .returned v ∧ w'.ownsRow X.heap.size 3 1 v lst.length (ints lst) ∧ Below X.heap.size X w') := Lib.hid fun X h => by
    rw [hlst]
    exact rspread_c zr zi q g n cap (reL ps) (imL ps) k X HQ.out (fun h0 => Nat.lt_of_lt_of_le (HGL.out h0) h.size) (HC3.out X h) (by have := HN.out; omega)
  have HLL : Hid (lst.length ≤ 35184372088832) := Lib.hid (by
    have := spreadL_len zr zi (reL ps) (imL ps) n k
    rw [hlst]
    unfold natI
    rw [List.length_map]
    have := HN.out
    omega)
  clear hlst A0 A1 A2 KA S0 HC3 HQ HGL
  go_wp2_with fail
  refine (HNUM.out _).mono ?_
  rintro _ w4 ⟨rfl, hb4⟩
  have HB4 := Lib.hid hb4
  clear hb4
  go_wp2_with fail
  refine (HRS.out _ HB4.out).mono ?_
  rintro _ w5 ⟨vr, rfl, ho5, hb5⟩
  obtain ⟨qr, cr, rfl⟩ := own_slice ho5
  have HO5 := Lib.hid ho5
  have HB5 := Lib.hid (below_then HB4.out HB4.out.size hb5)
  have HK5 : Hid (∀ X Y, Below w5.heap.size w5 X → Below X.heap.size X Y → Below w5.heap.size w5 Y) := Lib.hid fun X Y h k => below_then h h.size k
  have H35 : Hid (∀ X, Below w5.heap.size w5 X → Below w3.heap.size w3 X) := Lib.hid fun X h => below_then HB5.out HB5.out.size h
  have S5 : Hid (Below w5.heap.size w5 w5.drew) := Lib.hid (below_drewN (Below.refl w5.heap.size w5) 1)
  have hA : Hid (Blk w5 W.heap.size [.int .i64 px, .int .i64 py, .bool pr] 23) := Lib.hid ((hB0.out.below hb3 hB0.out.lt).below HB5.out (Nat.lt_of_lt_of_le hB0.out.lt hb3.size))
  have A0 : ∀ X, Below w5.heap.size w5 X → X.cell? ⟨W.heap.size, 0, none⟩ = some (.int .i64 px) := fun X h => (hA.out.below h hA.out.lt).cell 0
  have A1 : ∀ X, Below w5.heap.size w5 X → X.cell? ⟨W.heap.size, 1, none⟩ = some (.int .i64 py) := fun X h => (hA.out.below h hA.out.lt).cell 1
  have A2 : ∀ X, Below w5.heap.size w5 X → X.cell? ⟨W.heap.size, 2, none⟩ = some (.bool pr) := fun X h => (hA.out.below h hA.out.lt).cell 2
  have TOK := Lib.hid True.intro
  clear ho5 hb5 z0 z1 z2 HRS
  go_upto_region 5 with (fail)
  go_region_held3 (fun X => Below w5.heap.size w5 X)
    (with_reducible first | exact S5.out | assumption)
    (first
      | (go_at_call 12; (with_reducible refine (HNUM.out _).mono ?_); rintro _ wm ⟨rfl, hb⟩; have HBm := Lib.hid hb; have hs := HK5.out _ _ (by assumption) hb; have HWm := Lib.hid hs; clear hb)
      | (go_at_call 24; have TT := TOK.out; clear TT TOK; (with_reducible refine (HSP.out _ (H35.out _ (by assumption))).mono ?_); rintro _ wa ⟨va, rfl, ho, hb⟩; have HOa := Lib.hid ho; have HGa := Lib.hid HWm.out.size; have HBa := Lib.hid hb; have hs := HK5.out _ _ (by assumption) hb; have HSa := Lib.hid hs; clear hb ho)
      | (go_at_call 24; (with_reducible refine (HSP.out _ (H35.out _ (by assumption))).mono ?_); rintro _ wb ⟨vb, rfl, ho, hb⟩; have HOb := Lib.hid ho; have HBb := Lib.hid hb; have hs := HK5.out _ _ (by assumption) hb; have HSb := Lib.hid hs; clear hb ho))
  have HAB : Hid (Below wa.heap.size wa wb) := Lib.hid (below_then HBm.out HBm.out.size HBb.out)
  obtain ⟨qa, ca, rfl⟩ := own_slice HOa.out
  obtain ⟨qb, cb, rfl⟩ := own_slice HOb.out
  have HR := Lib.hid (own_below HO5.out HSb.out (Nat.le_refl _))
  have HA := Lib.hid (own_below HOa.out HAB.out (Nat.le_refl _))
  have HB := HOb
  obtain ⟨gr, hqr, _, hgr⟩ := rows_at HR.out
  obtain ⟨ga, hqa, _, hga⟩ := rows_at HA.out
  obtain ⟨gb, hqb, _, hgb⟩ := rows_at HB.out
  have key : ∀ (w : World) (g : Nat), (∀ i, i < lst.length → w.cell? ⟨g, i, none⟩ = (ints lst)[i]?) → ∀ (i : Nat) x, lst[i]? = some x → w.cell? ⟨g, i, none⟩ = some (.int .i64 x) := fun w g h i x hx => by
    rw [h i (List.getElem?_eq_some_iff.1 hx).1]
    unfold ints
    rw [List.getElem?_map, hx]
    rfl
  have HS1 := Lib.hid (same_c ga lst.length ca gr cr lst wb rfl HLL.out (key _ _ hga) (key _ _ hgr) qa qr hqa hqr)
  clear key
  go_wp2_with fail
  refine HS1.out.mono ?_
  rintro _ w6 ⟨rfl, hf6⟩
  have HR6 := Lib.hid (own_fr HR.out hf6 fun _ _ e => e)
  have HA6 := Lib.hid (own_fr HA.out hf6 fun _ _ e => e)
  have HB6 := Lib.hid (own_fr HB.out hf6 fun _ _ e => e)
  have HS6 := Lib.hid (HSb.out.trans (frNone_below hf6 HSb.out.size))
  obtain ⟨gr2, hqr2, _, hgr2⟩ := rows_at HR6.out
  obtain ⟨gb2, hqb2, _, hgb2⟩ := rows_at HB6.out
  have key : ∀ (w : World) (g : Nat), (∀ i, i < lst.length → w.cell? ⟨g, i, none⟩ = (ints lst)[i]?) → ∀ (i : Nat) x, lst[i]? = some x → w.cell? ⟨g, i, none⟩ = some (.int .i64 x) := fun w g h i x hx => by
    rw [h i (List.getElem?_eq_some_iff.1 hx).1]
    unfold ints
    rw [List.getElem?_map, hx]
    rfl
  have HS2 := Lib.hid (same_c gb2 lst.length cb gr2 cr lst w6 rfl HLL.out (key _ _ hgb2) (key _ _ hgr2) qb qr hqb2 hqr2)
  clear key hf6 HS1 HR HA HB HSb
  go_wp2_with fail
  refine HS2.out.mono ?_
  rintro _ w7 ⟨rfl, hf7⟩
  have HR7 := Lib.hid (own_fr HR6.out hf7 fun _ _ e => e)
  have HA7 := Lib.hid (own_fr HA6.out hf7 fun _ _ e => e)
  have HB7 := Lib.hid (own_fr HB6.out hf7 fun _ _ e => e)
  have HS7 := Lib.hid (HS6.out.trans (frNone_below hf7 HS6.out.size))
  obtain ⟨g1, hg1⟩ : ∃ g1, ∀ (i : Nat) x, lst[i]? = some x → qa = some ⟨g1, 0, none⟩ ∧ w5.heap.size ≤ g1 ∧ g1 < wa.heap.size ∧ w7.cell? ⟨g1, i, none⟩ = some (.int .i64 x) ∧ w7.frozen? ⟨g1, i, none⟩ = false := by
    by_cases h0 : 0 < lst.length
    · obtain ⟨g1, cap', e, hg, hlt, hC⟩ := own_some HA7.out h0
      cases e
      obtain ⟨_, cap2, e2, hg2, hlt2, _⟩ := own_some HOa.out h0
      cases e2
      exact ⟨g1, fun i x hx => ⟨rfl, by have := HGa.out; omega, hlt2, (hC.get (j := i) (by unfold ints; rw [List.getElem?_map, hx]; rfl)).1, (hC.get (j := i) (by unfold ints; rw [List.getElem?_map, hx]; rfl)).2⟩⟩
    · exact ⟨0, fun i x hx => by have := (List.getElem?_eq_some_iff.1 hx).1; omega⟩
  have HG1 := Lib.hid hg1
  clear hg1 hf7 HS2 HR6 HA6 HB6 HS6
  go_wp2_with fail
  go_loopg [11] lst.length (fun gg iv wr => ∃ i : Nat, iv = .int .i64 (i : Int) ∧ i + gg = lst.length ∧ Hid (Fr w7 wr (fun z => w5.heap.size ≤ z ∧ z < wa.heap.size)) ∧ Hid (∀ (j : Nat) x, i ≤ j → lst[j]? = some x → wr.cell? ⟨g1, j, none⟩ = some (.int .i64 x) ∧ wr.frozen? ⟨g1, j, none⟩ = false))
  case atStart => exact ⟨0, rfl, by omega, Lib.hid (Fr.refl _ _), Lib.hid fun j x _ h => (HG1.out j x h).2.2.2⟩
  case round =>
    obtain ⟨i, rfl, hi, HF, HC⟩ := hrel
    have HI := Lib.hid hi
    by_cases hlt : i < lst.length
    · have t1 : decide ((i : Int) < (lst.length : Int)) = true := decide_eq_true (by omega)
      have t1n : decide (i < lst.length) = true := decide_eq_true hlt
      obtain ⟨x, hx⟩ : ∃ x, lst[i]? = some x := ⟨lst[i]'hlt, List.getElem?_eq_getElem _⟩
      obtain ⟨rfl, h5, ha, _⟩ := HG1.out i x hx
      obtain ⟨c0, c1⟩ := HC.out i x (Nat.le_refl _) hx
      have HLT := Lib.hid hlt
      have H5A := Lib.hid (And.intro h5 ha)
      have ia : ((i : Int)).toNat = i := by omega
      have ip : (0 : Int) ≤ (i : Int) := by omega
      have iz : (i : Int) < (lst.length : Int) := by omega
      have kw : i + 1 < 35184372088834 := by have := HLL.out; omega
      clear hx h5 ha hlt hi
      go_wp2_with fail
      clear kw
      go_roundg (lst.length - (i + 1))
      case measure => have := HI.out; have := HLT.out; omega
      case rel => exact ⟨i + 1, by first | rfl | go_num, by have := HI.out; have := HLT.out; omega, Lib.hid (HF.out.setCell _ _ fun _ => H5A.out), Lib.hid fun j x hj hx => ⟨(World.cell?_setCell_other _ _ _ _ (by intro e; injection e with _ e; omega)).trans (HC.out j x (by omega) hx).1, by simpa using (HC.out j x (by omega) hx).2⟩⟩
    · have t1 : decide ((i : Int) < (lst.length : Int)) = false := decide_eq_false (by omega)
      have t1n : decide (i < lst.length) = false := decide_eq_false hlt
      have HR8 := Lib.hid (own_fr HR7.out HF.out (fun z hz e => by have := (own_lt_of HO5.out hz).2; omega))
      have HB8 := Lib.hid (own_fr HB7.out HF.out (fun z hz e => by have := (own_lt_of HOb.out hz).1; have := HBm.out.size; omega))
      have hA8 : Hid (Blk wr W.heap.size [.int .i64 px, .int .i64 py, .bool pr] 23) := Lib.hid ((hA.out.below HS7.out hA.out.lt).fr HF.out (fun e => by have := hA.out.lt; omega))
      have HW8 : Hid (Below w5.heap.size w5 wr) := Lib.hid (HS7.out.trans (HF.out.below (fun z _ e => e.1) HS7.out.size))
      clear hlt hi HC
      obtain ⟨gr3, hqr3, _, hgr3⟩ := rows_at HR8.out
      obtain ⟨gb3, hqb3, _, hgb3⟩ := rows_at HB8.out
      have key : ∀ (w : World) (g : Nat), (∀ i, i < lst.length → w.cell? ⟨g, i, none⟩ = (ints lst)[i]?) → ∀ (i : Nat) x, lst[i]? = some x → w.cell? ⟨g, i, none⟩ = some (.int .i64 x) := fun w g h i x hx => by
        rw [h i (List.getElem?_eq_some_iff.1 hx).1]
        unfold ints
        rw [List.getElem?_map, hx]
        rfl
      have HKEY := Lib.hid key
      have HS3 := Lib.hid (same_c gb3 lst.length cb gr3 cr lst wr rfl HLL.out (key _ _ hgb3) (key _ _ hgr3) qb qr hqb3 hqr3)
      clear key
      go_wp2_with fail
      refine HS3.out.mono ?_
      rintro _ w9 ⟨rfl, hf9⟩
      have hA9 := Lib.hid (hA8.out.fr hf9 fun e => e)
      have HR9 := Lib.hid (own_fr HR8.out hf9 fun _ _ e => e)
      have HW9 := Lib.hid (HW8.out.trans (frNone_below hf9 HW8.out.size))
      have z0 : ∀ j, w9.cell? ⟨W.heap.size, j, none⟩ = [Value.int .i64 px, .int .i64 py, .bool pr][j]? := fun j => hA9.out.cell j
      clear hf9 HS3 A0 A1 A2
      go_wp2_with fail
      refine (HNUM.out _).mono ?_
      rintro _ w10 ⟨rfl, hb10⟩
      have HW10 := Lib.hid (HK5.out _ _ HW9.out hb10)
      have HR10 := Lib.hid (own_below HR9.out hb10 (Nat.le_refl _))
      clear hb10 z0
      go_wp2_with fail
      refine (HSP.out _ (H35.out _ HW10.out)).mono ?_
      rintro _ w11 ⟨vd, rfl, ho11, hb11⟩
      obtain ⟨qd, cd, rfl⟩ := own_slice ho11
      have HW11 := Lib.hid (HK5.out _ _ HW10.out hb11)
      have HR11 := Lib.hid (own_below HR10.out hb11 (Nat.le_refl _))
      obtain ⟨gr4, hqr4, _, hgr4⟩ := rows_at HR11.out
      obtain ⟨gd, hqd, _, hgd⟩ := rows_at ho11
      have HS4 := Lib.hid (same_c gd lst.length cd gr4 cr lst w11 rfl HLL.out (HKEY.out _ _ hgd) (HKEY.out _ _ hgr4) qd qr hqd hqr4)
      clear hb11 ho11 hgd hgr4
      go_wp2_with fail
      refine HS4.out.mono ?_
      rintro _ w12 ⟨rfl, hf12⟩
      have HW12 := Lib.hid (HW11.out.trans (frNone_below hf12 HW11.out.size))
      have HEND := Lib.hid (below_then HB3.out HB3.out.size (H35.out _ HW12.out))
      clear hf12
      go_wp2_with fail
      go_ret
      exact ⟨rfl, HEND.out⟩
end Go.Proofs.Ytgblbhbmeflckaa
