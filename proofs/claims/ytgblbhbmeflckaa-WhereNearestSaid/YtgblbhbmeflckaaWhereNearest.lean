/- WhereNearest: the first of the nearest is no farther than any other: the walk. -/
import Derived.Test.YtgblbhbmeflckaaNear3
import Derived.Test.YtgblbhbmeflckaaNumbers
import Derived.Deep.RegionHeld3
import Derived.Lib.QuietBelow
namespace Go.Proofs.Ytgblbhbmeflckaa
open Go.RowKit Go.Lib St Fl
set_option linter.unusedVariables false
set_option linter.unusedSimpArgs false
theorem RPts.below {w w' : World} {a : Option Addr} {n c N : Nat} {ps : List Pt} (h : RPts w [.slice a n c] ps) (hb : Below N w w') (hN : w.heap.size ≤ N) : RPts w' [.slice a n c] ps := by
  obtain ⟨a', n', c', hv, h1, h2, h3, h4, h5, h6⟩ := h
  refine ⟨a', n', c', hv, h1, h2, h3, h4, h5, fun h0 => ?_⟩
  obtain ⟨b, off, e1, e2, e3⟩ := h6 h0
  refine ⟨b, off, e1, by have := hb.size; omega, fun j x hx => ?_⟩
  obtain ⟨es, k1, k2, k3⟩ := e3 j x hx
  exact ⟨es, k1, fun i cc hc => (hb.cell (p := ⟨b, off + (j * 3 + i), none⟩) (by show b < N; omega)).trans (k2 i cc hc), k3⟩
theorem opens_points (w : World) : Opens Try.prog w 37 RPts (bulkL fun (p : Pt) => vbulk p.cells) :=
  opens_slice Try.underlying37 (by kernel_rfl) (by kernel_rfl) (by decide) (opens_pt w)
/-- a cover: a goal of a region's walk whose next operation its guard passes over is else laid open by whoever looks at it -/
structure Cov (p : Prop) : Prop where
  out : p
theorem cov_step {P : Program} {ops : Array Oper} {C : World → Prop} {Q : Act → Prop} {a : Act} {o : Oper} {rest : List Oper}
    (h : ∀ K : Act → Prop, (∀ a, Cov (wpQuiet P ops C Q rest a) → K a) → if Region.wanted o (yielded ops a.tmps) then o.quiet P a C K else K (a.put o.dst undef)) : Cov (wpQuiet P ops C Q (o :: rest) a) :=
  Cov.mk (wpQuiet_step fun K hK => h K fun a k => hK a k.out)
/-- the parts of the places of a list -/
def reL (ps : List Pt) (i : Nat) : Nat := (ps[i]?).elim 0 fun p => word p.raw p.x
def imL (ps : List Pt) (i : Nat) : Nat := (ps[i]?).elim 0 fun p => word p.raw p.y
theorem pts_get {ps : List Pt} {i : Nat} (h : i < ps.length) : (ps.map Pt.c)[i]? = some (.complex .f64 (reL ps i) (imL ps i)) := by
  rw [List.getElem?_map, List.getElem?_eq_getElem h]
  unfold reL imL
  rw [List.getElem?_eq_getElem h]
  rfl
theorem distI_lo (a b c d : Option Int) : -1 ≤ distI a b c d := by
  unfold distI
  split
  · rename_i a b c d
    have h1 : 0 ≤ (a - c) * (a - c) := by
      rcases Int.le_total 0 (a - c) with h | h
      · exact Int.mul_nonneg h h
      · exact Int.mul_nonneg_of_nonpos_of_nonpos h h
    have h2 : 0 ≤ (b - d) * (b - d) := by
      rcases Int.le_total 0 (b - d) with h | h
      · exact Int.mul_nonneg h h
      · exact Int.mul_nonneg_of_nonpos_of_nonpos h h
    omega
  · omega
theorem distI_hi (a b c d : Nat) : distI (pl a) (pl b) (pl c) (pl d) ≤ 8000000 := by
  have HB : ∀ (x : Nat) (n : Int), pl x = some n → -1000 ≤ n ∧ n ≤ 1000 := fun x n h => ⟨(pl_is h).1, (pl_is h).2.1⟩
  unfold distI
  split
  · rename_i x y z u h1 h2 h3 h4
    have e1 := HB _ _ h1; have e2 := HB _ _ h2; have e3 := HB _ _ h3; have e4 := HB _ _ h4
    obtain ⟨p1, p2⟩ := sq_bd (x := x - z) (by omega) (by omega)
    obtain ⟨q1, q2⟩ := sq_bd (x := y - u) (by omega) (by omega)
    omega
  · omega
theorem distI_self (a b : Nat) : distI (pl a) (pl b) (pl a) (pl b) = 0 ∨ distI (pl a) (pl b) (pl a) (pl b) = -1 := by
  unfold distI
  cases pl a <;> cases pl b <;> simp
theorem wrap_far {a b x y : Int} (ha : -1 ≤ a) (ha2 : a ≤ 8000000) (hb : -1 ≤ b) (hb2 : b ≤ 8000000) (h : IntKind.u64.wrap a < IntKind.u64.wrap b ∨ (IntKind.u64.wrap a ≤ IntKind.u64.wrap b ∧ x < y)) :
    (0 ≤ b → 0 ≤ a ∧ a ≤ b) ∧ (a = b → x < y) := by
  simp only [IntKind.wrap_u64] at h
  omega
set_option maxRecDepth 20000 in
set_option maxHeartbeats 8000000 in
theorem whereNearest_walk (W : World) (cp : Array Value) (p : Pt) (hp : RPt W cp.toList p) (a : Option Addr) (n c : Nat) (ps : List Pt) (hps : RPts W [.slice a n c] ps) :
    Calls Try.prog 7 #[.agg cp, .slice a n c] W fun e w' => e = .returned (.bool true) ∧ Below W.heap.size W w' := by
  obtain ⟨px, py, pr⟩ := p
  obtain rfl : cp = #[.int .i64 px, .int .i64 py, .bool pr] := Array.toList_inj.1 hp.1
  obtain ⟨hlen, hnc, hcb, hcm, _⟩ := rsl_get hps
  have HPS := Lib.hid hps
  have HLEN := Lib.hid hlen
  have hn : n ≤ 5864062014976 := by omega
  clear hp hps hcb hcm hnc hlen
  have hB0 := Lib.hid (Blk.new W [.int .i64 px, .int .i64 py, .bool pr] 23)
  have hb0 := Lib.hid ((Below.refl W.heap.size W).alloc (Nat.le_refl _) (.cells #[.int .i64 px, .int .i64 py, .bool pr] 23))
  go_enter Try.func7, Try.ntmps7
  go_upto_region 1 with (fail)
  change Code.wp _ _ _ _ (W.alloc (.cells #[.int .i64 px, .int .i64 py, .bool pr] 23))
  change Hid (Blk (W.alloc (.cells #[.int .i64 px, .int .i64 py, .bool pr] 23)) W.heap.size [.int .i64 px, .int .i64 py, .bool pr] 23) at hB0
  generalize W.alloc (.cells #[.int .i64 px, .int .i64 py, .bool pr] 23) = w1 at hB0 hb0 ⊢
  go_wp2_with fail
  refine (speaks_any w1).mono ?_
  rintro _ _ ⟨rfl, rfl⟩
  have HK : Hid (∀ X Y, Below w1.heap.size w1 X → Below X.heap.size X Y → Below w1.heap.size w1 Y) := Lib.hid fun X Y h k => below_then h h.size k
  have A0 : ∀ X, Below w1.heap.size w1 X → X.cell? ⟨W.heap.size, 0, none⟩ = some (.int .i64 px) := fun X h => (hB0.out.below h hB0.out.lt).cell 0
  have A1 : ∀ X, Below w1.heap.size w1 X → X.cell? ⟨W.heap.size, 1, none⟩ = some (.int .i64 py) := fun X h => (hB0.out.below h hB0.out.lt).cell 1
  have A2 : ∀ X, Below w1.heap.size w1 X → X.cell? ⟨W.heap.size, 2, none⟩ = some (.bool pr) := fun X h => (hB0.out.below h hB0.out.lt).cell 2
  have S0 : Hid (Below w1.heap.size w1 w1.drew) := Lib.hid (below_drewN (Below.refl w1.heap.size w1) 1)
  have KA : Hid (∀ X o, Below w1.heap.size w1 X → Below w1.heap.size w1 (X.alloc o)) := Lib.hid fun X o h => h.alloc h.size o
  go_upto_region 3 with (fail)
  go_region_held3 (fun X => Below w1.heap.size w1 X)
    (with_reducible first | exact S0.out | assumption | exact KA.out _ _ (by assumption))
    (first
      | (go_at_call 18; with_reducible refine (numbers_c ps a n c _ (HPS.out.below (below_then hb0.out hb0.out.size (by assumption)) (Nat.le_refl _))).mono ?_; rintro _ wn ⟨v, rfl, hb, ho⟩; have HO := Lib.hid (own_mono ho (Below.size (B := w1.heap.size) (by assumption))); have hs := HK.out _ _ (by assumption) hb; clear hb ho)
      | (go_at_call 12; with_reducible refine (number_any px py pr _).mono ?_; rintro _ wm ⟨rfl, hb⟩; have HO2 := Lib.hid (own_below HO.out hb (Nat.le_refl _)); have hs := HK.out _ _ (by assumption) hb; have HSM := Lib.hid hs; clear hb)
      | (refine step_app (by rfl) (.tmp 13) (.tmp 16) 38 (by rfl) w1.heap.size 26 _ 1 16 Try.underlying38 c128_info rfl (by decide) v ps.length _ (by rfl) HO2.out [.complex .f64 (word pr px) (word pr py)] 26 1 1 (by rfl) (by rfl) (by rfl) (by have := HLEN.out; unfold maxLen; omega) (by have := HLEN.out; omega) HSM.out.size ?_; intro v' wl hO hG hN; have hs := Below.grown (by exact HSM.out) hG.out HSM.out.size (own_base HO2.out); have HSL := Lib.hid hs; obtain ⟨q, cap, rfl⟩ := own_slice hO.out; clear hN))
  obtain ⟨g, cap', hq, hg1, hg2, hC⟩ := own_some hO.out (by omega)
  obtain ⟨rfl, _, rfl⟩ : q = some ⟨g, 0, none⟩ ∧ True ∧ cap = cap' := by cases hq; exact ⟨rfl, trivial, rfl⟩
  obtain ⟨qs, hqs⟩ : ∃ qs, qs = ps ++ [(⟨px, py, pr⟩ : Pt)] := ⟨_, rfl⟩
  have hql : qs.length = n + 1 := by rw [hqs, List.length_append, HLEN.out]; rfl
  have hCq : List.map Pt.c ps ++ [Value.complex .f64 (word pr px) (word pr py)] = qs.map Pt.c := by rw [hqs, List.map_append]; rfl
  rw [hCq] at hC
  have hln : reL qs n = word pr px ∧ imL qs n = word pr py := by
    have : qs[n]? = some ⟨px, py, pr⟩ := by rw [hqs, ← HLEN.out]; simp
    unfold reL imL
    rw [this]
    exact ⟨rfl, rfl⟩
  rw [HLEN.out]
  have HCELL : Hid (∀ X, Below wl.heap.size wl X → ∀ i, i < n + 1 → X.cell? ⟨g, i, none⟩ = some (.complex .f64 (reL qs i) (imL qs i))) := Lib.hid fun X h i hi => by
    rw [h.cell (p := ⟨g, i, none⟩) hg2]
    exact (hC.get (pts_get (by rw [hql]; exact hi))).1
  have HG2 := Lib.hid hg2
  have HLN := Lib.hid hln
  clear hq hg1 hg2 hC hql hCq hln hO hG HO HO2 HSM hqs
  generalize reL qs = re at HCELL HLN
  generalize imL qs = im at HCELL HLN
  generalize hzr : word pr px = zr at HLN ⊢
  generalize hzi : word pr py = zi at HLN ⊢
  have HNUM : Hid (∀ X, Calls Try.prog 12 #[.agg #[.int .i64 px, .int .i64 py, .bool pr]] X fun e w' => e = .returned (.complex .f64 zr zi) ∧ Below X.heap.size X w') := Lib.hid fun X => by
    have := number_any px py pr X
    rw [hzr, hzi] at this
    exact this
  clear hzr hzi S0
  have a0 := A0 _ HSL.out
  have a1 := A1 _ HSL.out
  have a2 := A2 _ HSL.out
  go_wp2_with fail
  refine (HNUM.out wl).mono ?_
  rintro _ wk ⟨rfl, hb⟩
  have HKB := Lib.hid hb
  have HKS := Lib.hid (HK.out _ _ HSL.out hb)
  clear hb a0 a1 a2
  go_wp2_with fail
  refine (near_c zr zi (some ⟨g, 0, none⟩) g (n + 1) cap re im wk (fun _ => rfl) (fun _ => by have := HG2.out; have := HKB.out.size; omega) (HCELL.out wk HKB.out) (by omega)).mono ?_
  rintro _ w5 ⟨B, rfl, hb5, hB1, hB2, hcell, hfz⟩
  have HL5 := Lib.hid (below_then HKB.out HKB.out.size hb5)
  have HS5 := Lib.hid (HK.out _ _ HKS.out hb5)
  have HB2 := Lib.hid hB2
  have HNC : Hid (∀ X, Below w5.heap.size w5 X → ∀ i x, (nearL zr zi re im (n + 1))[i]? = some x → X.cell? ⟨B, i, none⟩ = some (.int .i64 x)) := Lib.hid fun X h i x hx => by
    rw [h.cell (p := ⟨B, i, none⟩) hB2]
    exact hcell i x hx
  have HLC : Hid (∀ X, Below w5.heap.size w5 X → ∀ i, i < n + 1 → X.cell? ⟨g, i, none⟩ = some (.complex .f64 (re i) (im i))) := Lib.hid fun X h => HCELL.out X (below_then HL5.out HL5.out.size h)
  have HA : Hid (∀ X, Below w5.heap.size w5 X → X.cell? ⟨W.heap.size, 0, none⟩ = some (.int .i64 px) ∧ X.cell? ⟨W.heap.size, 1, none⟩ = some (.int .i64 py) ∧ X.cell? ⟨W.heap.size, 2, none⟩ = some (.bool pr)) := Lib.hid fun X h =>
    have h1 := HK.out _ _ HS5.out h
    ⟨A0 X h1, A1 X h1, A2 X h1⟩
  have HFIN : Hid (∀ X, Below w5.heap.size w5 X → Below W.heap.size W X) := Lib.hid fun X h => below_then hb0.out hb0.out.size (HK.out _ _ HS5.out h)
  have HLL : Hid ((nearL zr zi re im (n + 1)).length = n + 1) := Lib.hid (nearL_len ..)
  have HMEM : Hid (∀ x, x ∈ nearL zr zi re im (n + 1) → ∃ k : Nat, k < n + 1 ∧ x = k) := Lib.hid fun x h => (nearL_mem zr zi re im (n + 1) x).1 h
  have HMEM2 : Hid ((n : Int) ∈ nearL zr zi re im (n + 1)) := Lib.hid ((nearL_mem zr zi re im (n + 1) n).2 ⟨n, by omega, rfl⟩)
  have HPW := Lib.hid (nearL_ahead zr zi re im (n + 1))
  generalize nearL zr zi re im (n + 1) = nl at HNC HLL HMEM HMEM2 HPW
  clear hb5 hB1 hB2 hcell hfz A0 A1 A2 HCELL HKB HKS HSL
  have HNM : Hid (n < n + 1 ∧ 1 ≤ n + 1 ∧ n + 1 ≤ 5864062014977) := Lib.hid (by omega)
  generalize n + 1 = m at HLC HLL HMEM HNM ⊢
  have hm1 : 1 ≤ m := HNM.out.2.1
  have hm2 : m ≤ 5864062014977 := HNM.out.2.2
  have t0 : ((m : Int) != (m : Int)) = false := by simp
  go_wp2_with fail
  clear t0
  go_loopg [7, 8, 9] (m - 1) (fun gg iv av bv wr => ∃ i j : Nat, iv = .int .i64 (i : Int) ∧ Hid (i = j + 1) ∧ i + gg = m ∧ Hid (Below w5.heap.size w5 wr))
  case atStart => exact ⟨1, 0, rfl, Lib.hid rfl, by omega, Lib.hid (Below.refl _ _)⟩
  case round =>
    obtain ⟨i, j, rfl, HIJ, hg, HBR⟩ := hrel
    by_cases hlt : i < m
    · have t1 : decide ((i : Int) < (m : Int)) = true := decide_eq_true (by omega)
      have t1n : decide (i < m) = true := decide_eq_true hlt
      obtain ⟨x, hx⟩ : ∃ x, nl[j]? = some x := ⟨nl[j]'(by have := HLL.out; have := HIJ.out; omega), List.getElem?_eq_getElem _⟩
      obtain ⟨y, hy⟩ : ∃ y, nl[i]? = some y := ⟨nl[i]'(by have := HLL.out; omega), List.getElem?_eq_getElem _⟩
      obtain ⟨kx, hkx, rfl⟩ := HMEM.out x (List.mem_of_getElem? hx)
      obtain ⟨ky, hky, rfl⟩ := HMEM.out y (List.mem_of_getElem? hy)
      have hah := List.pairwise_iff_getElem.1 HPW.out j i (by have := HLL.out; have := HIJ.out; omega) (by have := HLL.out; omega) (by have := HIJ.out; omega)
      rw [(List.getElem?_eq_some_iff.1 hx).2, (List.getElem?_eq_some_iff.1 hy).2] at hah
      have hwf := wrap_far (distI_lo (pl zr) (pl zi) (pl (re kx)) (pl (im kx))) (distI_hi zr zi (re kx) (im kx)) (distI_lo (pl zr) (pl zi) (pl (re ky)) (pl (im ky))) (distI_hi zr zi (re ky) (im ky)) hah
      have HWF := Lib.hid hwf
      have HXI := Lib.hid hx
      have HYI := Lib.hid hy
      have bz : Hid (∀ d os, Below w5.heap.size w5 (Go.Sort.grow (redrawn wr d) os)) := Lib.hid fun d os => below_then HBR.out HBR.out.size (below_regrown wr d os)
      have c0 : ∀ d os, (Go.Sort.grow (redrawn wr d) os).cell? ⟨W.heap.size, 0, none⟩ = some (.int .i64 px) := fun d os => (HA.out _ (bz.out d os)).1
      have c1 : ∀ d os, (Go.Sort.grow (redrawn wr d) os).cell? ⟨W.heap.size, 1, none⟩ = some (.int .i64 py) := fun d os => (HA.out _ (bz.out d os)).2.1
      have c2 : ∀ d os, (Go.Sort.grow (redrawn wr d) os).cell? ⟨W.heap.size, 2, none⟩ = some (.bool pr) := fun d os => (HA.out _ (bz.out d os)).2.2
      have n1 : ∀ d os, (Go.Sort.grow (redrawn wr d) os).cell? ⟨B, j, none⟩ = some (.int .i64 (kx : Int)) := fun d os => HNC.out _ (bz.out d os) j _ hx
      have n2 : ∀ d os, (Go.Sort.grow (redrawn wr d) os).cell? ⟨B, i, none⟩ = some (.int .i64 (ky : Int)) := fun d os => HNC.out _ (bz.out d os) i _ hy
      have l1 : ∀ d os, (Go.Sort.grow (redrawn wr d) os).cell? ⟨g, kx, none⟩ = some (.complex .f64 (re kx) (im kx)) := fun d os => HLC.out _ (bz.out d os) kx hkx
      have l2 : ∀ d os, (Go.Sort.grow (redrawn wr d) os).cell? ⟨g, ky, none⟩ = some (.complex .f64 (re ky) (im ky)) := fun d os => HLC.out _ (bz.out d os) ky hky
      have e8 : wrap64 ((i : Int) - 1) = (j : Int) := by have := HIJ.out; unfold wrap64; omega
      have e9 : IntKind.i64.wrap ((i : Int) - 1) = (j : Int) := by have := HIJ.out; rw [IntKind.wrap_i64]; omega
      have ja : ((j : Int)).toNat = j := by omega
      have jp : (0 : Int) ≤ (j : Int) := by omega
      have jz : (j : Int) < (m : Int) := by have := HIJ.out; omega
      have ia : ((i : Int)).toNat = i := by omega
      have ip : (0 : Int) ≤ (i : Int) := by omega
      have iz : (i : Int) < (m : Int) := by omega
      have xa : ((kx : Int)).toNat = kx := by omega
      have xp : (0 : Int) ≤ (kx : Int) := by omega
      have xz : (kx : Int) < (m : Int) := by omega
      have ya : ((ky : Int)).toNat = ky := by omega
      have yp : (0 : Int) ≤ (ky : Int) := by omega
      have yz : (ky : Int) < (m : Int) := by omega
      have N1 : Hid (∀ d os, Calls Try.prog 12 #[.agg #[.int .i64 px, .int .i64 py, .bool pr]] (Go.Sort.grow (redrawn wr d) os) fun e w'' => e = .returned (.complex .f64 zr zi) ∧ ∃ q : Regrown, w'' = Go.Sort.grow (redrawn wr q.d) q.os) := Lib.hid fun d os => Calls.regrown_of (HNUM.out _)
      have D1 : Hid (∀ d os, Calls Try.prog 11 #[.complex .f64 zr zi, .complex .f64 (re kx) (im kx)] (Go.Sort.grow (redrawn wr d) os) fun e w'' => e = .returned (.int .i64 (distI (pl zr) (pl zi) (pl (re kx)) (pl (im kx)))) ∧ ∃ q : Regrown, w'' = Go.Sort.grow (redrawn wr q.d) q.os) := Lib.hid fun d os =>
        Calls.regrown_of ((dist_any zr zi (re kx) (im kx) _).mono fun e w' ⟨h1, h2⟩ => ⟨h1, h2 ▸ Below.refl _ _⟩)
      have D2 : Hid (∀ d os, Calls Try.prog 11 #[.complex .f64 zr zi, .complex .f64 (re ky) (im ky)] (Go.Sort.grow (redrawn wr d) os) fun e w'' => e = .returned (.int .i64 (distI (pl zr) (pl zi) (pl (re ky)) (pl (im ky)))) ∧ ∃ q : Regrown, w'' = Go.Sort.grow (redrawn wr q.d) q.os) := Lib.hid fun d os =>
        Calls.regrown_of ((dist_any zr zi (re ky) (im ky) _).mono fun e w' ⟨h1, h2⟩ => ⟨h1, h2 ▸ Below.refl _ _⟩)
      have hlx := distI_lo (pl zr) (pl zi) (pl (re kx)) (pl (im kx))
      have hly := distI_lo (pl zr) (pl zi) (pl (re ky)) (pl (im ky))
      have HLX := Lib.hid hlx
      have HLY := Lib.hid hly
      generalize distI (pl zr) (pl zi) (pl (re kx)) (pl (im kx)) = dx at D1 HWF HLX
      generalize distI (pl zr) (pl zi) (pl (re ky)) (pl (im ky)) = dy at D2 HWF HLY
      have HG := Lib.hid hg
      clear hx hy hah hwf hlx hly hkx hky hlt hg
      go_upto_region 10 with (fail)
      refine wp_region_quiet_below (by kernel_rfl) (by kernel_rfl) ?_
      repeat (quiet_step (first | with_reducible exact N1.out _ _ | with_reducible exact D1.out _ _ | with_reducible exact D2.out _ _))
      refine wpQuiet_nil ?_
      intro _ hw'
      obtain ⟨⟨dq, osq⟩, hw''⟩ := hw'
      subst hw''
      have HB6 := Lib.hid (bz.out dq osq)
      have n1' := n1 dq osq
      have n2' := n2 dq osq
      clear c0 c1 c2 n1 n2 l1 l2 N1 D1 D2 bz HBR
      generalize Go.Sort.grow (redrawn wr dq) osq = w6 at HB6 n1' n2' ⊢
      have n1 : ∀ k, (w6.drewN k).cell? ⟨B, j, none⟩ = some (.int .i64 (kx : Int)) := fun k => n1'
      have n2 : ∀ k, (w6.drewN k).cell? ⟨B, i, none⟩ = some (.int .i64 (ky : Int)) := fun k => n2'
      clear n1' n2'
      go_upto_region 11 with (fail)
      obtain ⟨w1', w2'⟩ := HWF.out
      by_cases hy0 : 0 ≤ dy
      · obtain ⟨f1, f2⟩ := w1' hy0
        have u1 : decide (0 ≤ dy) = true := decide_eq_true hy0
        have u2 : decide (dy < dx) = false := decide_eq_false (by omega)
        have u3 : decide (dx < 0) = false := decide_eq_false (by omega)
        by_cases he : dx = dy
        · have hlt2 := w2' he
          subst he
          have u4 : decide ((ky : Int) ≤ (kx : Int)) = false := decide_eq_false (by omega)
          have u5 : decide (ky ≤ kx) = false := decide_eq_false (by omega)
          have u6 : (dx == dx) = true := beq_self_eq_true _
          clear w1' w2' hlt2 f1 f2 hy0
          go_quiet (fail)
          go_wp2
          go_roundg (m - (i + 1))
          case measure => have := HG.out; omega
          case rel => exact ⟨i + 1, i, by first | rfl | go_num, Lib.hid rfl, by have := HG.out; omega, Lib.hid (below_drewN HB6.out _)⟩
        · have u4 : (dx == dy) = false := beq_eq_false_iff_ne.2 he
          clear w1' w2' f1 f2 hy0 he
          go_quiet (fail)
          go_wp2
          go_roundg (m - (i + 1))
          case measure => have := HG.out; omega
          case rel => exact ⟨i + 1, i, by first | rfl | go_num, Lib.hid rfl, by have := HG.out; omega, Lib.hid (below_drewN HB6.out _)⟩
      · have u1 : decide (0 ≤ dy) = false := decide_eq_false hy0
        have hdy : dy = -1 := by have := HLY.out; omega
        by_cases hx0 : dx < 0
        · have hdx : dx = -1 := by have := HLX.out; omega
          have hlt2 := w2' (by omega)
          have u3 : decide (dx < 0) = true := decide_eq_true hx0
          have u4 : decide ((ky : Int) ≤ (kx : Int)) = false := decide_eq_false (by omega)
          have u5 : decide (ky ≤ kx) = false := decide_eq_false (by omega)
          have u6 : (dx == dy) = true := by rw [hdx, hdy]; rfl
          clear w1' w2' hlt2 hy0 hx0 hdx hdy
          go_quiet (fail)
          go_wp2
          go_roundg (m - (i + 1))
          case measure => have := HG.out; omega
          case rel => exact ⟨i + 1, i, by first | rfl | go_num, Lib.hid rfl, by have := HG.out; omega, Lib.hid (below_drewN HB6.out _)⟩
        · have u3 : decide (dx < 0) = false := decide_eq_false hx0
          have u4 : (dx == dy) = false := beq_eq_false_iff_ne.2 (by omega)
          clear w1' w2' hy0 hx0 hdy
          go_quiet (fail)
          go_wp2
          go_roundg (m - (i + 1))
          case measure => have := HG.out; omega
          case rel => exact ⟨i + 1, i, by first | rfl | go_num, Lib.hid rfl, by have := HG.out; omega, Lib.hid (below_drewN HB6.out _)⟩
    · obtain rfl : i = m := by omega
      have t1 : decide ((i : Int) < (i : Int)) = false := decide_eq_false (by omega)
      have t1n : decide (i < i) = false := decide_eq_false (by omega)
      obtain ⟨x, hx⟩ : ∃ x, nl[0]? = some x := ⟨nl[0]'(by have := HLL.out; omega), List.getElem?_eq_getElem _⟩
      obtain ⟨kx, hkx, rfl⟩ := HMEM.out x (List.mem_of_getElem? hx)
      have hz : distI (pl zr) (pl zi) (pl zr) (pl zi) = 0 → distI (pl zr) (pl zi) (pl (re kx)) (pl (im kx)) = 0 := by
        intro h0
        obtain ⟨q, hq⟩ := List.mem_iff_getElem?.1 HMEM2.out
        have hfn : farZ zr zi re im (n : Int) = 0 := by
          unfold farZ
          rw [Int.toNat_natCast, HLN.out.1, HLN.out.2, h0]; rfl
        have hk0 : farZ zr zi re im (kx : Int) ≤ 0 := by
          by_cases hq0 : q = 0
          · subst hq0
            rw [hx] at hq
            have e : (kx : Int) = (n : Int) := Option.some.inj hq
            rw [e, hfn]; omega
          · have hlq := (List.getElem?_eq_some_iff.1 hq).1
            have hah := List.pairwise_iff_getElem.1 HPW.out 0 q (by have := HLL.out; omega) hlq (by omega)
            rw [(List.getElem?_eq_some_iff.1 hx).2, (List.getElem?_eq_some_iff.1 hq).2, hfn] at hah
            omega
        unfold farZ at hk0
        rw [Int.toNat_natCast, IntKind.wrap_u64] at hk0
        have h1 := distI_lo (pl zr) (pl zi) (pl (re kx)) (pl (im kx))
        have h2 := distI_hi zr zi (re kx) (im kx)
        omega
      have bz : Hid (∀ d os, Below w5.heap.size w5 (Go.Sort.grow (redrawn wr d) os)) := Lib.hid fun d os => below_then HBR.out HBR.out.size (below_regrown wr d os)
      have c0 : ∀ d os, (Go.Sort.grow (redrawn wr d) os).cell? ⟨W.heap.size, 0, none⟩ = some (.int .i64 px) := fun d os => (HA.out _ (bz.out d os)).1
      have c1 : ∀ d os, (Go.Sort.grow (redrawn wr d) os).cell? ⟨W.heap.size, 1, none⟩ = some (.int .i64 py) := fun d os => (HA.out _ (bz.out d os)).2.1
      have c2 : ∀ d os, (Go.Sort.grow (redrawn wr d) os).cell? ⟨W.heap.size, 2, none⟩ = some (.bool pr) := fun d os => (HA.out _ (bz.out d os)).2.2
      have n1 : ∀ d os, (Go.Sort.grow (redrawn wr d) os).cell? ⟨B, 0, none⟩ = some (.int .i64 (kx : Int)) := fun d os => HNC.out _ (bz.out d os) 0 _ hx
      have l1 : ∀ d os, (Go.Sort.grow (redrawn wr d) os).cell? ⟨g, kx, none⟩ = some (.complex .f64 (re kx) (im kx)) := fun d os => HLC.out _ (bz.out d os) kx hkx
      have xa : ((kx : Int)).toNat = kx := by omega
      have xp : (0 : Int) ≤ (kx : Int) := by omega
      have xz : (kx : Int) < (i : Int) := by omega
      have i0 : (0 : Int) < (i : Int) := by omega
      have i0n : 0 < i := by omega
      have N1 : Hid (∀ d os, Calls Try.prog 12 #[.agg #[.int .i64 px, .int .i64 py, .bool pr]] (Go.Sort.grow (redrawn wr d) os) fun e w'' => e = .returned (.complex .f64 zr zi) ∧ ∃ q : Regrown, w'' = Go.Sort.grow (redrawn wr q.d) q.os) := Lib.hid fun d os => Calls.regrown_of (HNUM.out _)
      have D0 : Hid (∀ d os, Calls Try.prog 11 #[.complex .f64 zr zi, .complex .f64 zr zi] (Go.Sort.grow (redrawn wr d) os) fun e w'' => e = .returned (.int .i64 (distI (pl zr) (pl zi) (pl zr) (pl zi))) ∧ ∃ q : Regrown, w'' = Go.Sort.grow (redrawn wr q.d) q.os) := Lib.hid fun d os =>
        Calls.regrown_of ((dist_any zr zi zr zi _).mono fun e w' ⟨h1, h2⟩ => ⟨h1, h2 ▸ Below.refl _ _⟩)
      have D1 : Hid (∀ d os, Calls Try.prog 11 #[.complex .f64 zr zi, .complex .f64 (re kx) (im kx)] (Go.Sort.grow (redrawn wr d) os) fun e w'' => e = .returned (.int .i64 (distI (pl zr) (pl zi) (pl (re kx)) (pl (im kx)))) ∧ ∃ q : Regrown, w'' = Go.Sort.grow (redrawn wr q.d) q.os) := Lib.hid fun d os =>
        Calls.regrown_of ((dist_any zr zi (re kx) (im kx) _).mono fun e w' ⟨h1, h2⟩ => ⟨h1, h2 ▸ Below.refl _ _⟩)
      have hself := distI_self zr zi
      have D00 := dist_any zr zi zr zi
      have HZ := Lib.hid hz
      generalize distI (pl zr) (pl zi) (pl (re kx)) (pl (im kx)) = dx at D1 HZ
      generalize distI (pl zr) (pl zi) (pl zr) (pl zi) = d0 at D0 HZ hself D00
      clear hx hkx hlt hg hz hm1 hm2
      rcases hself with rfl | hd
      · obtain rfl : dx = 0 := HZ.out rfl
        go_upto_region 13 with (fail)
        refine wp_region_quiet_below (by kernel_rfl) (by kernel_rfl) ?_
        repeat (quiet_step (first | with_reducible exact N1.out _ _ | with_reducible exact D0.out _ _ | with_reducible exact D1.out _ _))
        refine wpQuiet_nil ?_
        intro _ hw'
        obtain ⟨⟨dq, osq⟩, hw''⟩ := hw'
        subst hw''
        have HE := Lib.hid (HFIN.out _ (bz.out dq osq))
        generalize Go.Sort.grow (redrawn wr dq) osq = w6 at HE ⊢
        clear c0 c1 c2 n1 l1
        go_wp2
        go_ret
        exact ⟨rfl, HE.out⟩
      · have ud : decide (d0 < 0) = true := decide_eq_true (by omega)
        clear hd n1 l1 xa xp xz i0 i0n D1 HZ t1 t1n D00
        go_upto_region 13 with (fail)
        refine wp_region_quiet_below (by kernel_rfl) (by kernel_rfl) ?_
        iterate 6 (quiet_step (first | with_reducible exact N1.out _ _ | with_reducible exact D0.out _ _))
        refine Cov.out ?_
        iterate 11 (refine cov_step (fun K hK => ?_); go_simp; first | (refine hK _ ?_; clear hK K) | (apply Exists.intro; refine ⟨fun _ => ?_, hK _ ?_⟩; fail))
        refine Cov.mk ?_
        repeat (quiet_step (fail))
        refine wpQuiet_nil ?_
        intro _ hw'
        obtain ⟨⟨dq, osq⟩, hw''⟩ := hw'
        subst hw''
        have HE := Lib.hid (HFIN.out _ (bz.out dq osq))
        generalize Go.Sort.grow (redrawn wr dq) osq = w6 at HE ⊢
        clear c0 c1 c2
        go_wp2
        go_ret
        exact ⟨rfl, HE.out⟩
end Go.Proofs.Ytgblbhbmeflckaa
