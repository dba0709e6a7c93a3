/- Plain laws: what was put comes out again. -/
import Derived.Test.YtbpphflegjebaaaUnpack2
import Derived.Test.YtbpphflegjebaaaWirePacks
namespace Go.Proofs.Ytbpphflegjebaaa
open Go.RowKit
set_option linter.unusedVariables false
set_option linter.unusedSimpArgs false
theorem ext_drop (t : ByteArray) (k : Nat) : (t.extract k t.size).data.toList = t.data.toList.drop k := by
  simp
  rw [List.take_of_length_le (by simp)]
theorem int_back (s : St) (n : Int) (r : List UInt8) (he : s.err = 0) (h1 : -9223372036854775808 ≤ n) (h2 : n ≤ 9223372036854775807) (h : s.rest.data.toList = Wire.enc n ++ r) :
    s.int.2 = n ∧ s.int.1.err = 0 ∧ s.int.1.rest.data.toList = r := by
  have hd : Wire.decU s.rest.data.toList 0 0 = .ok (Wire.zz n) (Wire.enc n).length := by
    rw [h]; exact Wire.decU_enc _ (Wire.zz_lt h1 h2) r
  have e : s.int = (s.take (Wire.enc n).length, Wire.unzz (Wire.zz n)) := by unfold St.int; rw [if_neg (by omega), hd]
  rw [e, Wire.unzz_zz]
  refine ⟨rfl, rfl, ?_⟩
  unfold St.take
  dsimp only
  rw [ext_drop, h, List.drop_left]
theorem text_back (s : St) (t : ByteArray) (r : List UInt8) (he : s.err = 0) (ht : t.size ≤ 1048576) (h : s.rest.data.toList = Wire.enc t.size ++ (t.data.toList ++ r)) :
    s.text.2 = t ∧ s.text.1.err = 0 ∧ s.text.1.rest.data.toList = r := by
  obtain ⟨e1, e2, e3⟩ := int_back s t.size (t.data.toList ++ r) he (by omega) (by omega) h
  unfold St.text
  generalize s.int.1 = s1 at e2 e3 ⊢
  rw [e1]
  have hl : t.data.toList.length = t.size := by simp
  have hsz : t.size ≤ s1.rest.size := by
    have : s1.rest.data.toList.length = s1.rest.size := by simp
    rw [e3, List.length_append] at this
    omega
  unfold textOf
  rw [if_neg (by omega), if_neg (by omega), if_neg (by omega), if_neg (by omega)]
  rw [Int.toNat_natCast]
  refine ⟨?_, rfl, ?_⟩
  · apply ByteArray.ext
    apply Array.toList_inj.1
    show (s1.rest.extract 0 t.size).data.toList = _
    have : (s1.rest.extract 0 t.size).data.toList = s1.rest.data.toList.take t.size := by simp
    rw [this, e3, ← hl, List.take_left]
  · unfold St.take
    dsimp only
    rw [ext_drop, e3, ← hl, List.drop_left]
theorem bool_back (s : St) (x : Bool) (r : List UInt8) (he : s.err = 0) (h : s.rest.data.toList = [if x then 1 else 0] ++ r) :
    s.bool.2 = x ∧ s.bool.1.err = 0 ∧ s.bool.1.rest.data.toList = r := by
  have e : s.bool = (s.take 1, x) := by
    unfold St.bool
    rw [if_neg (by omega), h]
    cases x <;> rfl
  rw [e]
  refine ⟨rfl, rfl, ?_⟩
  unfold St.take
  dsimp only
  rw [ext_drop, h]
  cases x <;> rfl
theorem fin_end (s : St) (he : s.err = 0) (h : s.rest.data.toList = []) : s.fin = 0 := by
  unfold St.fin
  rw [if_neg (by rintro ⟨_, k⟩; exact k h)]
  exact he
theorem encAll_drop {xs : List Item} {k : Nat} {x : Item} (h : xs[k]? = some x) : encAll (xs.drop k) = x.enc ++ encAll (xs.drop (k + 1)) := by
  have hl := (List.getElem?_eq_some_iff.1 h).1
  rw [List.drop_eq_getElem_cons hl]
  rw [List.getElem?_eq_getElem hl] at h
  rw [Option.some.inj h]
  simp [encAll]
end Go.Proofs.Ytbpphflegjebaaa
