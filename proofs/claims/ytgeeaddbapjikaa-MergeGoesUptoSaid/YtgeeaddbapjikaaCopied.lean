/- mahoutlaw19's copied, and arguments that are runs of pairs. -/
import Derived.Test.YtgeeaddbapjikaaRMerge
import Derived.Test.YtgeeaddbapjikaaApp0
namespace Go.Proofs.Ytgeeaddbapjikaa
open Go.RowKit Go.Proofs.Ytgeeaddbapjikaa.St
set_option linter.unusedVariables false
set_option linter.unusedSimpArgs false
namespace Mg
def PrWf (x : Pr) : Prop := x.1.size ≤ 140737488351232 ∧ x.2.size ≤ 140737488351232
def RPrs := RSl 2 32 (fun (_ : World) (cs : List Value) (x : Pr) => cs = prc x ∧ PrWf x)
def RPrss := RSl 1 24 RPrs
end Mg
open Mg
theorem opens_pr (w : World) : Opens Try.prog w 33 (fun _ cs (x : Pr) => cs = prc x ∧ PrWf x) (fun x => vbulk (prc x)) :=
  opens_flat (n := 4) (ks := [.str, .str]) (by kernel_rfl) prc PrWf fun cs h => by
    obtain ⟨a, d1, rfl, ha, h1⟩ := h.str_inv
    obtain ⟨b, d2, rfl, hb, h2⟩ := h1.str_inv
    obtain rfl := h2.nil_inv
    exact ⟨(a, b), rfl, ha, hb⟩
theorem opens_prs (w : World) : Opens Try.prog w 29 RPrs (bulkL fun x => vbulk (prc x)) :=
  opens_slice Try.underlying29 (by kernel_rfl) (by kernel_rfl) (by decide) (opens_pr w)
theorem opens_prss (w : World) : Opens Try.prog w 22 RPrss (bulkL (bulkL fun x => vbulk (prc x))) :=
  opens_slice Try.underlying22 (by kernel_rfl) (by kernel_rfl) (by decide) (opens_prs w)
namespace Mg
/-- a run as it stands in memory -/
def RowOf (w : World) (base : Nat) (e : TypeId) (v : Value) (x : List Pr) : Prop := (x.length = 0 ∧ ∃ B c, v = .slice B 0 c) ∨ (0 < x.length ∧ Recs w base e 2 v (x.map prc))
theorem RowOf.fr {w w' : World} {base : Nat} {e : TypeId} {v : Value} {x : List Pr} {S : Nat → Prop} (h : RowOf w base e v x) (hf : Fr w w' S) (hs : ∀ j cur, w.heap[j]? = some (.cells cur e (0, 0)) → ¬ S j) : RowOf w' base e v x := by
  rcases h with h | ⟨h1, h2⟩
  · exact .inl h
  · exact .inr ⟨h1, h2.fr hf fun k e' => by obtain ⟨cur, hc⟩ := own_at h2.own e'; exact hs k cur hc⟩
theorem RowOf.below {w w' : World} {base : Nat} {e : TypeId} {v : Value} {x : List Pr} (h : RowOf w base e v x) (hb : Below w.heap.size w w') : RowOf w' base e v x :=
  h.fr (Fr.of_below (S := fun j => w.heap.size ≤ j) hb fun _ q _ => q) fun j cur hj => by have := (Array.getElem?_eq_some_iff.1 hj).1; omega
theorem RowOf.recs {w : World} {base : Nat} {e : TypeId} {v : Value} {x : List Pr} (h : Recs w base e 2 v (x.map prc)) : RowOf w base e v x := by
  by_cases hx : x.length = 0
  · obtain ⟨A, c, hv⟩ := h.slice
    rw [List.length_map, hx] at hv
    exact .inl ⟨hx, A, c, hv⟩
  · exact .inr ⟨Nat.pos_of_ne_zero hx, h⟩
def RowsOf (w : World) (base : Nat) (e : TypeId) (vs : List Value) (xss : List (List Pr)) : Prop := vs.length = xss.length ∧ ∀ (j : Nat) (v : Value) (x : List Pr), vs[j]? = some v → xss[j]? = some x → RowOf w base e v x
theorem RowsOf.fr {w w' : World} {base : Nat} {e : TypeId} {vs : List Value} {xss : List (List Pr)} {S : Nat → Prop} (h : RowsOf w base e vs xss) (hf : Fr w w' S) (hs : ∀ j cur, w.heap[j]? = some (.cells cur e (0, 0)) → ¬ S j) : RowsOf w' base e vs xss :=
  ⟨h.1, fun j v x h1 h2 => (h.2 j v x h1 h2).fr hf hs⟩
theorem RowsOf.below {w w' : World} {base : Nat} {e : TypeId} {vs : List Value} {xss : List (List Pr)} (h : RowsOf w base e vs xss) (hb : Below w.heap.size w w') : RowsOf w' base e vs xss := ⟨h.1, fun j v x h1 h2 => (h.2 j v x h1 h2).below hb⟩
theorem RowsOf.snoc {w : World} {base : Nat} {e : TypeId} {vs : List Value} {xss : List (List Pr)} {v : Value} {x : List Pr} (h : RowsOf w base e vs xss) (hv : RowOf w base e v x) : RowsOf w base e (vs ++ [v]) (xss ++ [x]) := by
  refine ⟨by simp [h.1], fun j v' x' h1 h2 => ?_⟩
  by_cases hj : j < vs.length
  · rw [List.getElem?_append_left hj] at h1
    rw [List.getElem?_append_left (by rw [← h.1]; exact hj)] at h2
    exact h.2 j v' x' h1 h2
  · have hl : j = vs.length := by
      have := (List.getElem?_eq_some_iff.1 h1).1
      simp at this; omega
    subst hl
    rw [List.getElem?_append_right (Nat.le_refl _)] at h1
    rw [h.1, List.getElem?_append_right (Nat.le_refl _)] at h2
    simp at h1 h2
    subst h1; subst h2
    exact hv
theorem runs_info : (Try.prog.info? 29).map (fun i => (i.zero, i.size, i.bytes)) = some (some (.slice none 0 0), 1, 24) := by kernel_rfl
theorem rruns_info : (Try.prog.info? 27).map (fun i => (i.zero, i.size, i.bytes)) = some (some (.slice none 0 0), 1, 24) := by kernel_rfl
/-- what came in -/
theorem prs_get {w : World} {A : Option Addr} {n c : Nat} {xs : List Pr} (h : RPrs w [.slice A n c] xs) : xs.length = n ∧ PsAt w A xs ∧ Vw w 2 A n c (xs.map prc).flatten := by
  obtain ⟨h1, h2, h3, h4, h5⟩ := rsl_get h
  have hfl : ∀ r ∈ xs.map prc, r.length = 2 := fun r hr => by obtain ⟨x, _, rfl⟩ := List.mem_map.1 hr; rfl
  refine ⟨h1, fun k x hx => ?_, h2, by rw [flatten_len hfl, List.length_map, h1], fun hn => ?_⟩
  · obtain ⟨b, off, e, hb, _, hc⟩ := h5 k x hx
    exact ⟨b, off, e, hb, hc 0 _ rfl, hc 1 _ rfl⟩
  · obtain ⟨x0, hx0⟩ : ∃ x, xs[0]? = some x := ⟨xs[0]'(by omega), List.getElem?_eq_getElem _⟩
    obtain ⟨b, off, e, hb, _, _⟩ := h5 0 x0 hx0
    refine ⟨b, off, e, hb, fun j u hu => ?_⟩
    have hjl := (List.getElem?_eq_some_iff.1 hu).1
    rw [flatten_len hfl, List.length_map] at hjl
    obtain ⟨x, hx⟩ : ∃ x, xs[j / 2]? = some x := ⟨xs[j / 2]'(by omega), List.getElem?_eq_getElem _⟩
    obtain ⟨b', off', e', _, _, hc⟩ := h5 (j / 2) x hx
    rw [e] at e'
    cases e'
    have hj : j = j / 2 * 2 + j % 2 := by omega
    rw [hj, flatten_get hfl (i := j / 2) (r := prc x) (by simp [hx]) (by omega)] at hu
    rw [hj]
    exact hc (j % 2) u hu
theorem row_of_app0 {w w' : World} {base : Nat} {p : Option Addr} {m c : Nat} {xs : List Pr} (hm : xs.length = m) (h : App0 w w' 33 2 (.slice p m c) m (xs.map prc).flatten) (hb : base ≤ w.heap.size) : RowOf w' base 33 (.slice p m c) xs := by
  by_cases h0 : m = 0
  · subst h0; exact .inl ⟨hm, p, c, rfl⟩
  · refine .inr ⟨by omega, own_mono ?_ hb, fun r hr => by obtain ⟨x, _, rfl⟩ := List.mem_map.1 hr; rfl⟩
    have := h.own (Nat.pos_of_ne_zero h0)
    rw [List.length_map, hm]
    exact this
structure CopI (W : World) (i : Nat) (xss : List (List Pr)) (w : World) (va vb : Value) (La Lb : List Value) : Prop where
  a : w.ownsRow W.heap.size 29 1 va i La
  b : w.ownsRow W.heap.size 27 1 vb i Lb
  ra : RowsOf w W.heap.size 33 La (xss.take i)
  rb : RowsOf w W.heap.size 53 Lb (xss.take i)
  below : Below W.heap.size W w
theorem CopI.new {W w w' : World} {i : Nat} {xss : List (List Pr)} {va vb : Value} {La Lb : List Value} (h : CopI W i xss w va vb La Lb) (hb : Below w.heap.size w w') : CopI W i xss w' va vb La Lb :=
  ⟨own_below h.a hb (Nat.le_refl _), own_below h.b hb (Nat.le_refl _), h.ra.below hb, h.rb.below hb, below_then h.below h.below.size hb⟩
/-- between the two appends of a round -/
structure CopA (W : World) (i : Nat) (xss : List (List Pr)) (w : World) (va vb : Value) (La Lb : List Value) : Prop where
  a : w.ownsRow W.heap.size 29 1 va (i + 1) La
  b : w.ownsRow W.heap.size 27 1 vb i Lb
  ra : RowsOf w W.heap.size 33 La (xss.take (i + 1))
  rb : RowsOf w W.heap.size 53 Lb (xss.take i)
  below : Below W.heap.size W w
theorem CopA.new {W w w' : World} {i : Nat} {xss : List (List Pr)} {va vb : Value} {La Lb : List Value} (h : CopA W i xss w va vb La Lb) (hb : Below w.heap.size w w') : CopA W i xss w' va vb La Lb :=
  ⟨own_below h.a hb (Nat.le_refl _), own_below h.b hb (Nat.le_refl _), h.ra.below hb, h.rb.below hb, below_then h.below h.below.size hb⟩
theorem off_own {w : World} {base : Nat} {e t : TypeId} {size n : Nat} {v : Value} {xs : List Value} (h : w.ownsRow base e size v n xs) (ht : t ≠ e) : ∀ j cur, w.heap[j]? = some (.cells cur t (0, 0)) → ¬ v.ownBlock = some j := fun j cur hj e' => by
  obtain ⟨c2, hc⟩ := own_at h e'
  rw [hj] at hc
  cases hc
  exact ht rfl
theorem CopI.pushA {W w1 w2 : World} {i : Nat} {xss : List (List Pr)} {va vb va' : Value} {La Lb : List Value} {v : Value} {xs : List Pr} (h : CopI W i xss w1 va vb La Lb) (hO : w2.ownsRow W.heap.size 29 1 va' (i + 1) (La ++ [v])) (hG : w1.grownBy w2 va.ownBlock)
    (hr : RowOf w1 W.heap.size 33 v xs) (ht : xss.take (i + 1) = xss.take i ++ [xs]) : CopA W i xss w2 va' vb (La ++ [v]) Lb := by
  have hf : Fr w1 w2 (fun j => va.ownBlock = some j) := Fr.of_grown hG fun _ e => e
  refine ⟨hO, own_fr h.b hf (fun k e => by obtain ⟨cur, hc⟩ := own_at h.b e; exact off_own h.a (by decide) k cur hc), ?_, h.rb.fr hf (off_own h.a (by decide)), below_row h.a hG h.below (Nat.le_refl _) h.below.size⟩
  rw [ht]
  exact (h.ra.fr hf (off_own h.a (by decide))).snoc (hr.fr hf (off_own h.a (by decide)))
theorem CopA.pushB {W w1 w2 : World} {i : Nat} {xss : List (List Pr)} {va vb vb' : Value} {La Lb : List Value} {v : Value} {xs : List Pr} (h : CopA W i xss w1 va vb La Lb) (hO : w2.ownsRow W.heap.size 27 1 vb' (i + 1) (Lb ++ [v])) (hG : w1.grownBy w2 vb.ownBlock)
    (hr : RowOf w1 W.heap.size 53 v xs) (ht : xss.take (i + 1) = xss.take i ++ [xs]) : CopI W (i + 1) xss w2 va vb' La (Lb ++ [v]) := by
  have hf : Fr w1 w2 (fun j => vb.ownBlock = some j) := Fr.of_grown hG fun _ e => e
  refine ⟨own_fr h.a hf (fun k e => by obtain ⟨cur, hc⟩ := own_at h.a e; exact off_own h.b (by decide) k cur hc), hO, h.ra.fr hf (off_own h.b (by decide)), ?_, below_row h.b hG h.below (Nat.le_refl _) h.below.size⟩
  rw [ht]
  exact (h.rb.fr hf (off_own h.b (by decide))).snoc (hr.fr hf (off_own h.b (by decide)))
theorem row_one {w : World} {base : Nat} {e : TypeId} {v : Value} {xs : List Pr} (h : RowOf w base e v xs) : ([v] : List Value).all (·.oneCell') = true := by
  rcases h with ⟨_, B, c, rfl⟩ | ⟨_, h⟩
  · rfl
  · obtain ⟨A, c, rfl⟩ := h.slice; rfl
set_option maxRecDepth 20000 in
set_option maxHeartbeats 8000000 in
theorem copied_c (W : World) (A : Option Addr) (n c : Nat) (xss : List (List Pr)) (hx : RPrss W [.slice A n c] xss) (hn : n ≤ 1048576) (hs : ∀ xs ∈ xss, xs.length ≤ 1048576) :
    Calls Try.prog 9 #[.slice A n c] W fun e w' => ∃ va vb La Lb, e = .returned (.tuple #[va, vb]) ∧ CopI W n xss w' va vb La Lb := by
  obtain ⟨a', n', c', hv, h1, h2, h3, h4, h5, h6⟩ := hx
  cases hv
  have HEL := Lib.hid h6
  have HLEN := Lib.hid h1
  have HN := Lib.hid hn
  have HSS := Lib.hid hs
  clear h1 h2 h3 h4 h5 h6 hn hs
  go_enter Try.func9, Try.ntmps9
  go_wp2
  go_loopg [4, 5, 6] n (fun g va vb iv wr => ∃ (i : Nat) (La Lb : List Value), iv = .int .i64 i ∧ i ≤ n ∧ g = n - i ∧ Hid (CopI W i xss wr va vb La Lb))
  case atStart => exact ⟨0, [], [], rfl, Nat.zero_le _, rfl, Lib.hid ⟨World.ownsRow_nil _ _ _ _, World.ownsRow_nil _ _ _ _, ⟨rfl, fun j v x h => by simp at h⟩, ⟨rfl, fun j v x h => by simp at h⟩, Below.refl _ _⟩⟩
  case round =>
    obtain ⟨i, La, Lb, rfl, hi, hg, HC⟩ := hrel
    have HG := Lib.hid hg
    clear hg
    by_cases h : i < n
    · obtain ⟨xs, hxs⟩ : ∃ xs, xss[i]? = some xs := ⟨xss[i]'(by rw [HLEN.out]; exact h), List.getElem?_eq_getElem _⟩
      obtain ⟨b, off, rfl, hb, he⟩ := HEL.out (Nat.lt_of_le_of_lt (Nat.zero_le _) h)
      obtain ⟨es, hes, hcell, hrp⟩ := he i xs hxs
      have hrp' := hrp
      obtain ⟨a2, m, c2, hv2, _⟩ := hrp'
      subst hv2
      obtain ⟨hm, hps, hvw⟩ := prs_get hrp
      have d0 : wr.cell? ⟨b, off + i, none⟩ = some (.slice a2 m c2) := by
        have := hcell 0 _ rfl
        rw [Nat.mul_one, Nat.add_zero] at this
        exact (HC.out.below.cell (p := ⟨b, off + i, none⟩) hb).trans this
      have hml : m ≤ 1048576 := by rw [← hm]; exact HSS.out xs (List.mem_of_getElem? hxs)
      have HVW := Lib.hid (hvw.below HC.out.below (Nat.le_refl _))
      have HTK : Hid (xss.take (i + 1) = xss.take i ++ [xs]) := Lib.hid (by rw [List.take_succ_eq_append_getElem (by rw [HLEN.out]; exact h), (List.getElem?_eq_some_iff.1 hxs).2])
      have HM1 : Hid (m ≤ maxLen) := Lib.hid (by unfold maxLen; omega)
      have HM2 : Hid (m * 32 ≤ 281474976710656) := Lib.hid (by omega)
      have HI1 : Hid (i + 1 ≤ maxLen) := Lib.hid (by unfold maxLen; have := HN.out; omega)
      have HI2 : Hid ((i + 1) * 24 ≤ 140737488355328) := Lib.hid (by have := HN.out; omega)
      have HMM := Lib.hid hm
      have HML := Lib.hid hml
      have HDW : Hid (∀ w', Below W.heap.size W w' → w'.cell? ⟨b, off + i, none⟩ = some (.slice a2 m c2)) := Lib.hid fun w' hB => by
        have := hcell 0 _ rfl
        rw [Nat.mul_one, Nat.add_zero] at this
        exact (hB.cell (p := ⟨b, off + i, none⟩) hb).trans this
      have HPS := Lib.hid hps
      clear hcell he hxs hb hm hvw hml hrp hes
      have d0a := fun o => Lib.cell?_alloc_some (W := wr) o d0
      have HCA := fun o => Lib.hid (HC.out.new ((Below.refl _ wr).alloc (Nat.le_refl _) o))
      have HVA := fun o => Lib.hid (HVW.out.alloc o)
      go_upto_region 6 with (fail)
      go_wp2_with (first
        | (at_builtin; refine wpList_app0 rfl _ _ 29 rfl 33 _ 2 32 Try.underlying29 pair_info rfl (by decide) _ rfl _ m _ _ rfl (HVA _).out HM1.out HM2.out ?_; intro v1 w1 hA0; have HA0 := Lib.hid hA0.out; obtain ⟨p1, c1, rfl, _, _⟩ := HA0.out.vw; have HC1 := Lib.hid ((HCA _).out.new HA0.out.below); have HR1 : Hid (RowOf w1 W.heap.size 33 (.slice p1 m c1) xs) := Lib.hid (row_of_app0 HMM.out HA0.out (Nat.le_trans HC.out.below.size (by simp))); clear hA0 d0 d0a HCA HVA HVW)
        | (at_builtin; refine wpList_app rfl _ _ 22 rfl W.heap.size 29 _ 1 24 Try.underlying22 runs_info rfl (by decide) _ i _ rfl HC1.out.a [.slice p1 m c1] _ 1 1 rfl rfl rfl HI1.out HI2.out HC1.out.below.size ?_; intro va' w2 hO hG hN; have HC2 := Lib.hid (HC1.out.pushA hO.out hG.out HR1.out HTK.out); have d2 := HDW.out w2 HC2.out.below; have HRF := Lib.hid (refs_c w2 a2 c2 xs (HPS.out.below HC2.out.below) (by rw [HMM.out]; exact HML.out)); clear hO hG hN HC1 HR1 HA0)
        | (go_at_call 15; rw [HMM.out] at HRF; refine HRF.out.mono ?_; rintro e w3 ⟨v3, rfl, hr3, hb3⟩; obtain ⟨A3, c3, hv3⟩ := hr3.slice; rw [List.length_map, HMM.out] at hv3; subst hv3; have HC3 := Lib.hid (HC2.out.new hb3); have HR3 := Lib.hid (RowOf.recs (Mg.Recs.mono hr3 HC2.out.below.size)); clear hr3 hb3 HRF d2 HC2)
        | (at_builtin; refine wpList_app rfl _ _ 24 rfl W.heap.size 27 _ 1 24 Try.underlying24 rruns_info rfl (by decide) _ i _ rfl HC3.out.b [.slice A3 m c3] _ 1 1 rfl rfl rfl HI1.out HI2.out HC3.out.below.size ?_; intro vb' w4 hO hG hN; have HC4 := Lib.hid (HC3.out.pushB hO.out hG.out HR3.out HTK.out); clear hO hG hN HC3 HR3))
      go_roundg (n - (i + 1))
      case measure => have := HG.out; omega
      case rel => exact ⟨i + 1, _, _, congrArg (Value.int .i64) (lt_i64 hi HN.out).1, h, rfl, HC4⟩
    · obtain rfl : i = n := by omega
      go_wp2
      go_ret2
      exact ⟨_, _, La, Lb, rfl, HC.out⟩
end Mg
end Go.Proofs.Ytgeeaddbapjikaa
