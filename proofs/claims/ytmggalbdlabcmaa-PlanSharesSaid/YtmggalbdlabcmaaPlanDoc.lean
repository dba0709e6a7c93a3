/- plan: what PlanShares' walk uses. (Under way.) -/
import Derived.Test.YtmggalbdlabcmaaRPlan
import Derived.Test.YtmggalbdlabcmaaPlanTsk
namespace Go.Proofs.Ytmggalbdlabcmaa
open Go.RowKit Go.Lib St Fl Go.Sort
set_option linter.unusedVariables false
set_option linter.unusedSimpArgs false
/-- a word that a whole number has become is no NaN -/
theorem word_self (s : Bool) (r : Nat) (h : r ≤ 9218868437227405312) : D.order (D.word s r) (D.word s r) = some .eq := by
  have e3 : D.binade = 4503599627370496 := rfl
  have e4 : D.infRung = 9218868437227405312 := rfl
  have e5 : D.signWeight = 9223372036854775808 := rfl
  have w2 : D.word s r % 9223372036854775808 = r := by
    unfold Ieee.Format.word
    rw [e5]
    cases s <;> simp <;> omega
  have hn : ∀ b t, D.read (D.word s r) ≠ .nan b t := fun b t e => by
    unfold Ieee.Format.read at e
    rw [e3, e4, e5, w2] at e
    dsimp only at e
    split at e
    · cases e
    · split at e
      · cases e
      · split at e
        · cases e
        · omega
  unfold Ieee.Format.order
  cases hd : D.read (D.word s r) with
  | number b m p => unfold Ieee.Datum.order; simp
  | infinity b => unfold Ieee.Datum.order; simp
  | nan b t => exact absurd hd (hn b t)
theorem nearest_self (s : Bool) (N : Nat) (p : Int) : D.order (D.nearest s N p) (D.nearest s N p) = some .eq := by
  have hr : ∃ r, r ≤ 9218868437227405312 ∧ D.nearest s N p = D.word s r := by
    have e4 : D.infRung = 9218868437227405312 := rfl
    unfold Ieee.Format.nearest
    split
    · exact ⟨0, by omega, rfl⟩
    · exact ⟨_, by rw [← e4]; exact Nat.min_le_right _ _, rfl⟩
  obtain ⟨r, h1, h2⟩ := hr
  rw [h2]
  exact word_self s r h1
theorem fw_self (n : Int) : D.order (fw n) (fw n) = some .eq := nearest_self _ _ _
theorem InAt.grownOf {w w' : World} {base b2 s2 n2 : Nat} {e2 : TypeId} {v v2 : Value} {us : List Value} {ts : List (Int × List Spot)} {x2 : List Value} (h : InAt w base v us ts) (h2 : w.ownsRow b2 e2 s2 v2 n2 x2) (hG : w.grownBy w' v2.ownBlock) (n1 : e2 ≠ 29) (n2 : e2 ≠ 31) : InAt w' base v us ts :=
  ⟨h.ul, own_grown h.row hG (own_types h2 h.row n1), fun i u t hu ht => ⟨own_grown (h.hold i u t hu ht).1 hG (own_types h2 (h.hold i u t hu ht).1 n2), (h.hold i u t hu ht).2⟩⟩
/-- the law's own lists of places -/
structure DcAt (w : World) (base : Nat) (v : Value) (us : List Value) (hss : List (List Spot)) : Prop where
  ul : us.length = hss.length
  row : w.ownsRow base 26 1 v hss.length us
  hold : ∀ (i : Nat) (u : Value) (hs : List Spot), us[i]? = some u → hss[i]? = some hs → w.ownsRow base 31 1 u hs.length (hs.map spotC) ∧ hs.length < 35184372088832
theorem DcAt.nil (w : World) (base : Nat) : DcAt w base (.slice none 0 0) [] [] := ⟨rfl, World.ownsRow_nil _ _ _ _, fun i u t h => by simp at h⟩
theorem DcAt.below {w w' : World} {base N : Nat} {v : Value} {us : List Value} {hss : List (List Spot)} (h : DcAt w base v us hss) (hb : Below N w w') (hN : w.heap.size ≤ N) : DcAt w' base v us hss :=
  ⟨h.ul, own_below h.row hb hN, fun i u t hu ht => ⟨own_below (h.hold i u t hu ht).1 hb hN, (h.hold i u t hu ht).2⟩⟩
theorem DcAt.grownOf {w w' : World} {base b2 s2 n2 : Nat} {e2 : TypeId} {v v2 : Value} {us : List Value} {hss : List (List Spot)} {x2 : List Value} (h : DcAt w base v us hss) (h2 : w.ownsRow b2 e2 s2 v2 n2 x2) (hG : w.grownBy w' v2.ownBlock) (n1 : e2 ≠ 26) (n2 : e2 ≠ 31) : DcAt w' base v us hss :=
  ⟨h.ul, own_grown h.row hG (own_types h2 h.row n1), fun i u t hu ht => ⟨own_grown (h.hold i u t hu ht).1 hG (own_types h2 (h.hold i u t hu ht).1 n2), (h.hold i u t hu ht).2⟩⟩
theorem DcAt.push {w w' : World} {base : Nat} {v v' u : Value} {us : List Value} {hss : List (List Spot)} {hs : List Spot} (h : DcAt w base v us hss) (hu : w.ownsRow base 31 1 u hs.length (hs.map spotC)) (hul : hs.length < 35184372088832)
    (hO : w'.ownsRow base 26 1 v' (hss.length + 1) (us ++ [u])) (hG : w.grownBy w' v.ownBlock) : DcAt w' base v' (us ++ [u]) (hss ++ [hs]) := by
  have hty : 26 ≠ 31 := by decide
  refine ⟨by simp [h.ul], ?_, fun i x y hx hy => ?_⟩
  · rw [List.length_append]
    exact hO
  · by_cases hi : i < hss.length
    · rw [List.getElem?_append_left (by rw [h.ul]; exact hi)] at hx
      rw [List.getElem?_append_left hi] at hy
      obtain ⟨h1, h2⟩ := h.hold i x y hx hy
      exact ⟨own_grown h1 hG (own_types h.row h1 hty), h2⟩
    · have hil := (List.getElem?_eq_some_iff.1 hy).1
      rw [List.length_append] at hil
      obtain rfl : i = hss.length := by simp at hil; omega
      rw [← h.ul, List.getElem?_append_right (Nat.le_refl _), Nat.sub_self] at hx
      rw [List.getElem?_append_right (Nat.le_refl _), Nat.sub_self] at hy
      obtain rfl := Option.some.inj hx
      obtain rfl := Option.some.inj hy
      exact ⟨own_grown hu hG (own_types h.row hu hty), hul⟩
theorem DcAt.doc {w : World} {base : Nat} {v : Value} {us : List Value} {hss : List (List Spot)} (h : DcAt w base v us hss) (hl : hss.length < 8796093022208) : ∃ p c, v = .slice p hss.length c ∧ DocAt w p hss.length c hss := by
  obtain ⟨p, c, rfl⟩ := own_slice h.row
  refine ⟨p, c, rfl, rfl, hl, fun i t ht => ?_⟩
  have hi := (List.getElem?_eq_some_iff.1 ht).1
  obtain ⟨u, hu⟩ : ∃ u, us[i]? = some u := ⟨us[i]'(by rw [h.ul]; exact hi), List.getElem?_eq_getElem _⟩
  obtain ⟨g, cap, e, _, hlt, hC⟩ := own_some h.row (by omega)
  cases e
  obtain ⟨ho, hol⟩ := h.hold i u t hu ht
  obtain ⟨q, k, rfl, hh⟩ := hold_of_own ho hol
  exact ⟨g, q, t.length, k, rfl, hlt, (hC.get hu).1, hh⟩
/-! ### what is left -/
theorem lf_filter (ts : List (Int × List Spot)) (zs : List Spot) : (shareP ts zs).2 = (List.range ts.length).filter fun i => decide (i ∈ (shareP ts zs).2) := by
  suffices H : ∀ (zs : List Spot) (s : List Int × List Nat), s.2.Nodup → s.2 = (List.range ts.length).filter (fun i => decide (i ∈ s.2)) → (zs.foldl (shStep ts) s).2 = (List.range ts.length).filter fun i => decide (i ∈ (zs.foldl (shStep ts) s).2) from
    H zs _ List.nodup_range (by
      symm
      rw [List.filter_eq_self]
      intro a ha
      simpa using ha)
  intro zs
  induction zs with
  | nil => intro s _ h; exact h
  | cons z zs ih =>
    intro s hn h
    rw [List.foldl_cons]
    refine ih _ ?_ ?_
    · unfold shStep
      split
      · exact hn.erase _
      · exact hn
    · unfold shStep
      split
      · rename_i y _
        dsimp only
        conv => lhs; rw [hn.erase_eq_filter, h, List.filter_filter]
        refine List.filter_congr fun i _ => ?_
        rw [Bool.eq_iff_iff, Bool.and_eq_true, decide_eq_true_eq, decide_eq_true_eq, hn.mem_erase_iff]
        simp
      · exact h
theorem free_lf {lf : List Nat} {n : Nat} (h : lf = (List.range n).filter fun i => decide (i ∈ lf)) : freeL (fun i => decide (i ∉ lf)) n = lf := by
  conv => rhs; rw [h]
  unfold freeL
  refine List.filter_congr fun i _ => ?_
  simp
theorem free_none (n : Nat) : freeL (fun _ => false) n = List.range n := by
  unfold freeL
  rw [List.filter_eq_self]
  intro a _
  rfl
/-- the program's Pick and the reference's -/
theorem pick_same (z : Spot) (ts : List (Int × List Spot)) : pickP (farsS z ts) = numOf (chooseF z (hsOf ts) (List.range ts.length)) := by
  have hm : farsS z ts = (List.range ts.length).map fun i => farS z (hsOf ts i) := by
    unfold farsS
    apply List.ext_getElem?
    intro i
    rw [List.getElem?_map, List.getElem?_map]
    by_cases hi : i < ts.length
    · rw [List.getElem?_range hi, List.getElem?_eq_getElem hi]
      unfold hsOf
      simp [List.getElem?_eq_getElem hi]
    · rw [List.getElem?_eq_none (by omega), List.getElem?_eq_none (by simp; omega)]
      rfl
  rw [hm]
  rcases pick_left (left := List.range ts.length) (f := fun i => farS z (hsOf ts i)) rfl with ⟨h1, _, h3⟩ | ⟨j, i, h1, h2, h3⟩
  · rw [h1]
    unfold chooseF
    rw [h3]
    rfl
  · rw [h1]
    unfold chooseF
    rw [h3]
    have hj := (List.getElem?_eq_some_iff.1 h2).1
    rw [List.length_range] at hj
    rw [List.getElem?_range hj] at h2
    obtain rfl := Option.some.inj h2
    rfl
/-- what the next worker takes -/
theorem share_num {ts : List (Int × List Spot)} {os : List Int} {lf : List Nat} {z : Spot} {x : Int} (h : (shStep ts (os, lf) z).1 = os ++ [x]) : x = numOf (chooseF z (hsOf ts) lf) := by
  unfold shStep at h
  unfold chooseF
  dsimp only at h
  split at h
  · rename_i y hy
    rw [hy]
    have : os ++ [(y.1 : Int)] = os ++ [x] := h
    have := List.append_cancel_left this
    simpa [numOf] using this.symm
  · rename_i hy
    rw [hy]
    have := List.append_cancel_left h
    simpa [numOf] using this.symm
end Go.Proofs.Ytmggalbdlabcmaa
