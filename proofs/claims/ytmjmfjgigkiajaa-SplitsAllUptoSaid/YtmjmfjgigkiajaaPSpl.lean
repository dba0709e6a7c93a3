/- Plain laws of splits: no program in sight. -/
namespace Spl
/-- how wide a split is -/
def wide (size : Nat) (want : Int) : Nat := (max want (((size - 1) / 256 + 1 : Nat) : Int)).toNat
def count (size wd : Nat) : Nat := (size - 1) / wd + 1
def to (size wd k : Nat) : Nat := if k + 1 < count size wd then (k + 1) * wd else size
theorem wide_pos (size : Nat) (want : Int) : 1 ≤ wide size want := by unfold wide; omega
theorem lt_count {size wd k : Nat} (_hs : 1 ≤ size) (hw : 1 ≤ wd) : k < count size wd ↔ k * wd < size := by
  unfold count
  rw [Nat.lt_succ_iff, Nat.le_div_iff_mul_le (by omega)]; omega
theorem count_le {size : Nat} (want : Int) (_hs : 1 ≤ size) : count size (wide size want) ≤ 256 := by
  unfold count
  have h : (size - 1) / wide size want < 256 := by
    rw [Nat.div_lt_iff_lt_mul (by have := wide_pos size want; omega)]
    have : (size - 1) / 256 + 1 ≤ wide size want := by unfold wide; omega
    have h2 : 256 * ((size - 1) / 256 + 1) ≤ 256 * wide size want := Nat.mul_le_mul_left _ this
    omega
  omega
theorem count_pos (size wd : Nat) : 0 < count size wd := Nat.succ_pos _
theorem next_le {size wd k : Nat} (hs : 1 ≤ size) (hw : 1 ≤ wd) (h : k + 1 < count size wd) : (k + 1) * wd < size := (lt_count hs hw).1 h
theorem succ_mul' (k wd : Nat) : (k + 1) * wd = k * wd + wd := by rw [Nat.add_mul, Nat.one_mul]
end Spl
