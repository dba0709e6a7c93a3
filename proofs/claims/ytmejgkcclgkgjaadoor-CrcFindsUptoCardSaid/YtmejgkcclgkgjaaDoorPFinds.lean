/- Plain law: one changed byte is found in just its chunk. -/
import Derived.Test.YtmejgkcclgkgjaaDoorPBad
namespace Go.Proofs.YtmejgkcclgkgjaaDoor.Chk
set_option linter.unusedVariables false
set_option linter.unusedSimpArgs false
theorem brst_one (l : List UInt8) (k : Nat) (a x : UInt8) (h : l[k]? = some a) : Crc.brst l k x.toNat 4 = l.set k (a ^^^ x) := by
  have hx := x.toNat_lt
  have z : ∀ i, 0 < i → i < 4 → Crc.xbyte x.toNat i = 0 := by
    intro i h1 h2
    unfold Crc.xbyte
    have : x.toNat / 2 ^ (8 * i) = 0 := Nat.div_eq_of_lt (Nat.lt_of_lt_of_le hx (Nat.pow_le_pow_right (by decide) (by omega)))
    rw [this]; rfl
  rw [show (4 : Nat) = 3 + 1 from rfl, Crc.brst_none _ _ _ _ (z 3 (by omega) (by omega)), show (3 : Nat) = 2 + 1 from rfl, Crc.brst_none _ _ _ _ (z 2 (by omega) (by omega)), show (2 : Nat) = 1 + 1 from rfl, Crc.brst_none _ _ _ _ (z 1 (by omega) (by omega)), show (1 : Nat) = 0 + 1 from rfl]
  rw [Crc.brst_in l k x.toNat 0 (a := a) (by rw [Crc.brst_zero]; exact h), Crc.brst_zero]
  have e : Crc.xbyte x.toNat 0 = x := by unfold Crc.xbyte; simp
  rw [e]; rfl
theorem one_seen (l : List UInt8) (k : Nat) (a x : UInt8) (h : l[k]? = some a) (hx : x ≠ 0) : Crc.ext 0 (l.set k (a ^^^ x)) ≠ Crc.ext 0 l := by
  have hk := (List.getElem?_eq_some_iff.1 h).1
  rw [← brst_one l k a x h]
  refine Crc.burst_seen l k x.toNat hk ?_
  unfold Crc.bseen
  rw [List.any_eq_true]
  refine ⟨0, by simp, ?_⟩
  have e : Crc.xbyte x.toNat 0 = x := by unfold Crc.xbyte; simp
  rw [e]
  simp [hx, hk]
theorem finds (m : Nat) : ∀ (n : Nat) (l : List UInt8) (k : Nat) (a x : UInt8), l.length ≤ n → l[k]? = some a → x ≠ 0 → sums m (l.set k (a ^^^ x)) ≠ sums m l ∧ common (sums m (l.set k (a ^^^ x))) (sums m l) = k / (m + 1)
  | 0, l, k, a, x, hn, h, _ => by
    have := (List.getElem?_eq_some_iff.1 h).1
    omega
  | n + 1, l, k, a, x, hn, h, hx => by
    have hk := (List.getElem?_eq_some_iff.1 h).1
    have hl : l ≠ [] := by intro e; subst e; simp at hk
    have hl2 : l.set k (a ^^^ x) ≠ [] := by intro e; have := congrArg List.length e; simp at this; exact hl this
    unfold sums
    rw [chunks_ne m hl, chunks_ne m hl2]
    by_cases hc : k < m + 1
    · have e1 : (l.set k (a ^^^ x)).take (m + 1) = (l.take (m + 1)).set k (a ^^^ x) := List.take_set ..
      have e3 : (l.take (m + 1))[k]? = some a := by rw [List.getElem?_take, if_pos hc]; exact h
      have hne := one_seen _ k a x e3 hx
      rw [List.map_cons, List.map_cons, e1]
      refine ⟨fun e => hne (List.cons.inj e).1, ?_⟩
      rw [common, if_neg hne, Nat.div_eq_of_lt hc]
    · have e1 : (l.set k (a ^^^ x)).take (m + 1) = l.take (m + 1) := by
        rw [List.take_set, List.set_eq_of_length_le (by simp; omega)]
      have e2 : (l.set k (a ^^^ x)).drop (m + 1) = (l.drop (m + 1)).set (k - (m + 1)) (a ^^^ x) := by
        rw [List.drop_set, if_neg hc]
      have e3 : (l.drop (m + 1))[k - (m + 1)]? = some a := by rw [List.getElem?_drop, show m + 1 + (k - (m + 1)) = k by omega]; exact h
      have ih := finds m n (l.drop (m + 1)) (k - (m + 1)) a x (by rw [List.length_drop]; omega) e3 hx
      unfold sums at ih
      rw [List.map_cons, List.map_cons, e1, e2]
      refine ⟨fun e => ih.1 (List.cons.inj e).2, ?_⟩
      rw [common, if_pos rfl, ih.2, Nat.div_eq_sub_div (a := k) (b := m + 1) (by omega) (by omega)]
theorem finds_bad (m : Nat) (l : List UInt8) (k : Nat) (a x : UInt8) (h : l[k]? = some a) (hx : x ≠ 0) : badI (sums m (l.set k (a ^^^ x))) (sums m l) = ((k / (m + 1) : Nat) : Int) := by
  have := finds m l.length l k a x (Nat.le_refl _) h hx
  unfold badI
  rw [if_neg this.1, this.2]
end Go.Proofs.YtmejgkcclgkgjaaDoor.Chk
