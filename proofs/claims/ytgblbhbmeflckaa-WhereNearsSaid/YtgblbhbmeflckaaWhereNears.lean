/- WhereNears: the places of every list by their distance; the list stays: the walk. -/
import Derived.Test.YtgblbhbmeflckaaRNear
import Derived.Deep.RegionHeld3
import Derived.Lib.QuietBelow
namespace Go.Proofs.Ytgblbhbmeflckaa
open Go.RowKit Go.Lib St Fl
set_option linter.unusedVariables false
set_option linter.unusedSimpArgs false
theorem RPts.below {w w' : World} {a : Option Addr} {n c N : Nat} {ps : List Pt} (h : RPts w [.slice a n c] ps) (hb : Below N w w') (hN : w.heap.size ≤ N) : RPts w' [.slice a n c] ps := by
  obtain ⟨a', n', c', hv, h1, h2, h3, h4, h5, h6⟩ := h
  refine ⟨a', n', c', hv, h1, h2, h3, h4, h5, fun h0 => ?_⟩
  obtain ⟨b, off, e1, e2, e3⟩ := h6 h0
  refine ⟨b, off, e1, by have := hb.size; omega, fun j x hx => ?_⟩
  obtain ⟨es, k1, k2, k3⟩ := e3 j x hx
  exact ⟨es, k1, fun i cc hc => (hb.cell (p := ⟨b, off + (j * 3 + i), none⟩) (by show b < N; omega)).trans (k2 i cc hc), k3⟩
theorem opens_points (w : World) : Opens Try.prog w 37 RPts (bulkL fun (p : Pt) => vbulk p.cells) :=
  opens_slice Try.underlying37 (by kernel_rfl) (by kernel_rfl) (by decide) (opens_pt w)
/-- the parts of the places of a list -/
def reL (ps : List Pt) (i : Nat) : Nat := (ps[i]?).elim 0 fun p => word p.raw p.x
def imL (ps : List Pt) (i : Nat) : Nat := (ps[i]?).elim 0 fun p => word p.raw p.y
theorem pts_get {ps : List Pt} {i : Nat} (h : i < ps.length) : (ps.map Pt.c)[i]? = some (.complex .f64 (reL ps i) (imL ps i)) := by
  rw [List.getElem?_map, List.getElem?_eq_getElem h]
  unfold reL imL
  rw [List.getElem?_eq_getElem h]
  rfl
theorem frNone_below {w w' : World} {B : Nat} (h : Fr w w' (fun _ => False)) (hs : B ≤ w.heap.size) : Below B w w' := h.below (fun _ _ e => e.elim) hs
theorem rows_at {w : World} {B n cap : Nat} {e : TypeId} {q : Option Addr} {xs : List Value} (h : w.ownsRow B e 1 (.slice q n cap) n xs) :
    ∃ g, (0 < n → q = some ⟨g, 0, none⟩) ∧ (0 < n → g < w.heap.size) ∧ ∀ i, i < n → w.cell? ⟨g, i, none⟩ = xs[i]? := by
  by_cases h0 : 0 < n
  · obtain ⟨g, c, hq, _, hl, hC⟩ := own_some h h0
    cases hq
    exact ⟨g, fun _ => rfl, fun _ => hl, fun i hi => h.cellAt i (by omega)⟩
  · exact ⟨0, fun h => absurd h h0, fun h => absurd h h0, fun i hi => by omega⟩
set_option maxRecDepth 20000 in
set_option maxHeartbeats 8000000 in
theorem whereNears_walk (W : World) (cp : Array Value) (p : Pt) (hp : RPt W cp.toList p) (a : Option Addr) (n c : Nat) (ps : List Pt) (hps : RPts W [.slice a n c] ps) :
    Calls Try.prog 8 #[.agg cp, .slice a n c] W fun e w' => e = .returned (.bool true) ∧ Below W.heap.size W w' := by
  obtain ⟨px, py, pr⟩ := p
  obtain rfl : cp = #[.int .i64 px, .int .i64 py, .bool pr] := Array.toList_inj.1 hp.1
  obtain ⟨hlen, hnc, hcb, hcm, hget⟩ := rsl_get hps
  have HPS := Lib.hid hps
  have HGET := Lib.hid hget
  have HLEN := Lib.hid hlen
  have HN := Lib.hid (show n ≤ 5864062014976 by omega)
  clear hp hps hcb hcm hnc hlen hget
  have hB0 := Lib.hid (Blk.new W [.int .i64 px, .int .i64 py, .bool pr] 23)
  have hb0 := Lib.hid ((Below.refl W.heap.size W).alloc (Nat.le_refl _) (.cells #[.int .i64 px, .int .i64 py, .bool pr] 23))
  go_enter Try.func8, Try.ntmps8
  go_upto_region 1 with (fail)
  change Code.wp _ _ _ _ (W.alloc (.cells #[.int .i64 px, .int .i64 py, .bool pr] 23))
  change Hid (Blk (W.alloc (.cells #[.int .i64 px, .int .i64 py, .bool pr] 23)) W.heap.size [.int .i64 px, .int .i64 py, .bool pr] 23) at hB0
  generalize W.alloc (.cells #[.int .i64 px, .int .i64 py, .bool pr] 23) = w1 at hB0 hb0 ⊢
  go_wp2_with fail
  refine (speaks_any w1).mono ?_
  rintro _ _ ⟨rfl, rfl⟩
  go_wp2_with fail
  refine (numbers_c ps a n c w1 (HPS.out.below hb0.out (Nat.le_refl _))).mono ?_
  rintro _ w3 ⟨v, rfl, hb3, ho⟩
  rw [HLEN.out] at ho
  obtain ⟨q, cap, rfl⟩ := own_slice ho
  obtain ⟨g, hq, hgl, hgc⟩ := rows_at ho
  have HQ := Lib.hid hq
  have HGL := Lib.hid hgl
  have HC3 : Hid (∀ X, Below w3.heap.size w3 X → ∀ i, i < n → X.cell? ⟨g, i, none⟩ = some (.complex .f64 (reL ps i) (imL ps i))) := Lib.hid fun X h i hi => by
    rw [h.cell (p := ⟨g, i, none⟩) (hgl (by omega)), hgc i hi]
    exact pts_get (by rw [HLEN.out]; exact hi)
  have HB3 := Lib.hid (below_then hb0.out hb0.out.size hb3)
  have A0 : ∀ X, Below w3.heap.size w3 X → X.cell? ⟨W.heap.size, 0, none⟩ = some (.int .i64 px) := fun X h => ((hB0.out.below hb3 hB0.out.lt).below h (Nat.lt_of_lt_of_le hB0.out.lt hb3.size)).cell 0
  have A1 : ∀ X, Below w3.heap.size w3 X → X.cell? ⟨W.heap.size, 1, none⟩ = some (.int .i64 py) := fun X h => ((hB0.out.below hb3 hB0.out.lt).below h (Nat.lt_of_lt_of_le hB0.out.lt hb3.size)).cell 1
  have A2 : ∀ X, Below w3.heap.size w3 X → X.cell? ⟨W.heap.size, 2, none⟩ = some (.bool pr) := fun X h => ((hB0.out.below hb3 hB0.out.lt).below h (Nat.lt_of_lt_of_le hB0.out.lt hb3.size)).cell 2
  have HK : Hid (∀ X Y, Below w3.heap.size w3 X → Below X.heap.size X Y → Below w3.heap.size w3 Y) := Lib.hid fun X Y h k => below_then h h.size k
  have S0 : Hid (Below w3.heap.size w3 w3.drew) := Lib.hid (below_drewN (Below.refl w3.heap.size w3) 1)
  have KA : Hid (∀ X o, Below w3.heap.size w3 X → Below w3.heap.size w3 (X.alloc o)) := Lib.hid fun X o h => h.alloc h.size o
  have HNLL := Lib.hid (nearL_len (word pr px) (word pr py) (reL ps) (imL ps) n)
  have hnn : ((n : Int) != (n : Int)) = false := by simp
  generalize hzr : word pr px = zr at HNLL
  generalize hzi : word pr py = zi at HNLL
  have HNUM : Hid (∀ X, Calls Try.prog 12 #[.agg #[.int .i64 px, .int .i64 py, .bool pr]] X fun e w' => e = .returned (.complex .f64 zr zi) ∧ Below X.heap.size X w') := Lib.hid fun X => by
    have := number_any px py pr X
    rw [hzr, hzi] at this
    exact this
  clear hzr hzi hq hgl hgc ho hb3
  go_upto_region 4 with (fail)
  go_region_held3 (fun X => Below w3.heap.size w3 X)
    (with_reducible first | exact S0.out | assumption | exact KA.out _ _ (by assumption))
    (first
      | (go_at_call 12; (with_reducible refine (HNUM.out _).mono ?_); rintro _ wm ⟨rfl, hb⟩; have HBn := Lib.hid hb; have hs := HK.out _ _ (by assumption) hb; clear hb)
      | (go_at_call 19; (with_reducible refine (near_c zr zi q g n cap (reL ps) (imL ps) _ HQ.out (fun h => Nat.lt_of_lt_of_le (HGL.out h) (Below.size (B := w3.heap.size) (by assumption))) (HC3.out _ (by assumption)) (by have := HN.out; omega)).mono ?_); rintro _ wa ⟨B, rfl, hb, hB1, hB2, hcell, hfz⟩; have HBa : Hid (∀ X, Below wa.heap.size wa X → ∀ i x, (nearL zr zi (reL ps) (imL ps) n)[i]? = some x → X.cell? ⟨B, i, none⟩ = some (.int .i64 x)) := Lib.hid (fun X h i x hx => (h.cell (p := ⟨B, i, none⟩) hB2).trans (hcell i x hx)); have hs := HK.out _ _ (by assumption) hb; clear hb hB1 hB2 hcell hfz)
      | (go_at_call 21; (with_reducible refine (rnear_c zr zi q g n cap (reL ps) (imL ps) _ HQ.out (fun h => Nat.lt_of_lt_of_le (HGL.out h) (Below.size (B := w3.heap.size) (by assumption))) (HC3.out _ (by assumption)) (by have := HN.out; omega)).mono ?_); rintro _ wc ⟨vr, rfl, hb, ho⟩; have HBc := Lib.hid hb; have hs := HK.out _ _ (by assumption) hb; obtain ⟨qr, cr, rfl⟩ := own_slice ho; obtain ⟨gr, hqr, _, hgr⟩ := rows_at ho; have HQR := Lib.hid hqr; have HGR : Hid (∀ i x, (nearL zr zi (reL ps) (imL ps) n)[i]? = some x → wc.cell? ⟨gr, i, none⟩ = some (.int .i64 x)) := Lib.hid (fun i x hx => by have hi := (List.getElem?_eq_some_iff.1 hx).1; rw [hgr i (by have := HNLL.out; omega)]; unfold ints; rw [List.getElem?_map, hx]; rfl); clear hb ho hqr hgr)
      | (go_at_call 20; (with_reducible refine (same_c _ n _ _ _ (nearL zr zi (reL ps) (imL ps) n) _ HNLL.out (by have := HN.out; omega) (HBa.out _ (below_then HBn.out HBn.out.size HBc.out)) HGR.out _ _ (fun _ => rfl) HQR.out).mono ?_); rintro _ wd ⟨rfl, hf⟩; have hs := HK.out _ _ (by assumption) (frNone_below hf (Nat.le_refl _)); clear hf))
  clear HNLL HNUM HBa HBc HBn HGR HQR HGL
  go_wp2_with fail
  generalize wd = w5 at hs
  have HS5 := Lib.hid hs
  clear hs
  go_loopg [6] n (fun gg v6 wr => ∃ i : Nat, v6 = .int .i64 (i : Int) ∧ i + gg = n ∧ Hid (Below w3.heap.size w3 wr))
  case atStart => exact ⟨0, rfl, by omega, HS5⟩
  case round =>
    obtain ⟨i, rfl, hi, HW⟩ := hrel
    have HI := Lib.hid hi
    by_cases hlt : i < n
    · have t1 : decide ((i : Int) < (n : Int)) = true := decide_eq_true (by omega)
      have t1n : decide (i < n) = true := decide_eq_true hlt
      have HLT := Lib.hid hlt
      obtain ⟨p, hp⟩ : ∃ p, ps[i]? = some p := ⟨ps[i]'(by rw [HLEN.out]; exact hlt), List.getElem?_eq_getElem _⟩
      obtain ⟨b, off, rfl, hb, hwf, hcell⟩ := HGET.out i p hp
      have hre : reL ps i = word p.raw p.x := by unfold reL; rw [hp]; rfl
      have him : imL ps i = word p.raw p.y := by unfold imL; rw [hp]; rfl
      obtain rfl := HQ.out (by omega)
      have hc : ∀ X, Below w3.heap.size w3 X → ∀ (j : Nat) (v : Value), p.cells[j]? = some v → X.cell? ⟨b, off + (i * 3 + j), none⟩ = some v := fun X h j v hv =>
        ((below_then HB3.out HB3.out.size h).cell (p := ⟨b, off + (i * 3 + j), none⟩) hb).trans (hcell j v hv)
      have k0 : ∀ X, Below w3.heap.size w3 X → X.cell? ⟨b, off + i * 3, none⟩ = some (.int .i64 p.x) := fun X h => hc X h 0 _ rfl
      have k1 : ∀ X, Below w3.heap.size w3 X → X.cell? ⟨b, off + i * 3 + 1, none⟩ = some (.int .i64 p.y) := fun X h => hc X h 1 _ rfl
      have k2 : ∀ X, Below w3.heap.size w3 X → X.cell? ⟨b, off + i * 3 + 2, none⟩ = some (.bool p.raw) := fun X h => hc X h 2 _ rfl
      have kg : ∀ X, Below w3.heap.size w3 X → X.cell? ⟨g, i, none⟩ = some (.complex .f64 (reL ps i) (imL ps i)) := fun X h => HC3.out X h i hlt
      have hnum := fun X => number_any p.x p.y p.raw X
      rw [← hre, ← him] at hnum
      generalize reL ps i = ri at kg hnum
      generalize imL ps i = ii at kg hnum
      have HNM := Lib.hid hnum
      have ia : ((i : Int)).toNat = i := by omega
      have pa : (0 : Int) ≤ (i : Int) := by omega
      have iz : (i : Int) < (n : Int) := by omega
      have kw : i + 1 < 5864062014978 := by have := HN.out; omega
      have HKW := Lib.hid kw
      have e1 : ((ri : Int) != (ri : Int)) = false := by simp
      have e2 : ((ii : Int) != (ii : Int)) = false := by simp
      have S1 : Hid (Below w3.heap.size w3 wr.drew) := Lib.hid (below_drewN HW.out 1)
      clear hc hre him hcell hp hwf hb hlt hi hnum kw HS5
      go_upto_region 9 with (fail)
      go_region_held3 (fun X => Below w3.heap.size w3 X)
        (with_reducible first | exact S1.out | assumption | exact KA.out _ _ (by assumption))
        (first
          | (go_at_call 12; (with_reducible refine (HNM.out _).mono ?_); rintro _ wm ⟨rfl, hb⟩; have hs := HK.out _ _ (by assumption) hb; clear hb))
      have HS6 := Lib.hid hs
      clear k0 k1 k2 kg hs
      have hbt := bits_run
      have kw := HKW.out
      go_wp2_with fail
      clear kw
      go_roundg (n - (i + 1))
      case measure => have := HI.out; have := HLT.out; omega
      case rel => exact ⟨i + 1, by first | rfl | go_num, by have := HI.out; have := HLT.out; omega, HS6⟩
    · have t1 : decide ((i : Int) < (n : Int)) = false := decide_eq_false (by omega)
      have t1n : decide (i < n) = false := decide_eq_false hlt
      clear hlt hi HS5
      go_wp2_with fail
      go_ret
      exact ⟨rfl, below_then HB3.out HB3.out.size HW.out⟩
end Go.Proofs.Ytgblbhbmeflckaa
