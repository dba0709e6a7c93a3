/- Plain laws of frames. -/
import Derived.Test.YtpbofigfcdojgaaDoorPCrc
namespace Go.Proofs.YtpbofigfcdojgaaDoor.Fr4
set_option linter.unusedVariables false
set_option linter.unusedSimpArgs false
def le4 (n : Nat) : List UInt8 := [UInt8.ofNat n, UInt8.ofNat (n / 256), UInt8.ofNat (n / 65536), UInt8.ofNat (n / 16777216)]
def four (n : Nat) : ByteArray := ⟨(le4 n).toArray⟩
def sum (s : ByteArray) : ByteArray := four (Crc.ext 0 s.data.toList)
def frame (b : ByteArray) : ByteArray := if b.size ≤ 1048576 then four b.size ++ sum (four b.size) ++ b ++ sum b else ⟨#[]⟩
def bt (s : ByteArray) (i : Nat) : Nat := (s.data.toList.getD i 0).toNat
def val4 (s : ByteArray) : Nat := bt s 0 + bt s 1 * 256 + bt s 2 * 65536 + bt s 3 * 16777216
/-- the frame at the head of r: its body's length, or what is wrong -/
def head (r : ByteArray) : Nat × Nat :=
  if r.size = 0 then (0, 3)
  else if r.size < 8 then (0, 23)
  else if sum (r.extract 0 4) ≠ r.extract 4 8 then (0, 24)
  else if 1048576 < val4 r then (0, 24)
  else if r.size < val4 r + 12 then (0, 23)
  else if sum (r.extract 8 (8 + val4 r)) ≠ r.extract (8 + val4 r) (12 + val4 r) then (0, 24)
  else (val4 r, 0)
def next (s : ByteArray) (at_ : Nat) : ByteArray × Nat × Nat :=
  let r := s.extract at_ s.size
  if (head r).2 = 0 then (r.extract 8 (8 + (head r).1), at_ + 12 + (head r).1, 0) else (⟨#[]⟩, 0, (head r).2)
theorem head_ok {r : ByteArray} (h : (head r).2 = 0) : (head r).1 = val4 r ∧ val4 r ≤ 1048576 ∧ val4 r + 12 ≤ r.size ∧ 8 ≤ r.size ∧ sum (r.extract 0 4) = r.extract 4 8 ∧ sum (r.extract 8 (8 + val4 r)) = r.extract (8 + val4 r) (12 + val4 r) := by
  unfold head at h ⊢
  by_cases h1 : r.size = 0
  · rw [if_pos h1] at h; cases h
  rw [if_neg h1] at h ⊢
  by_cases h2 : r.size < 8
  · rw [if_pos h2] at h; cases h
  rw [if_neg h2] at h ⊢
  by_cases h3 : sum (r.extract 0 4) ≠ r.extract 4 8
  · rw [if_pos h3] at h; cases h
  rw [if_neg h3] at h ⊢
  by_cases h4 : 1048576 < val4 r
  · rw [if_pos h4] at h; cases h
  rw [if_neg h4] at h ⊢
  by_cases h5 : r.size < val4 r + 12
  · rw [if_pos h5] at h; cases h
  rw [if_neg h5] at h ⊢
  by_cases h6 : sum (r.extract 8 (8 + val4 r)) ≠ r.extract (8 + val4 r) (12 + val4 r)
  · rw [if_pos h6] at h; cases h
  rw [if_neg h6]
  exact ⟨rfl, by omega, by omega, by omega, Classical.not_not.1 h3, Classical.not_not.1 h6⟩
theorem next_ok {s : ByteArray} {a : Nat} (ha : a ≤ s.size) (h : (next s a).2.2 = 0) : a < (next s a).2.1 ∧ (next s a).2.1 ≤ s.size := by
  unfold next at h ⊢
  dsimp only at h ⊢
  by_cases h0 : (head (s.extract a s.size)).2 = 0
  · rw [if_pos h0]
    obtain ⟨e1, e2, e3, _⟩ := head_ok h0
    dsimp only
    have : (s.extract a s.size).size = s.size - a := by simp
    omega
  · rw [if_neg h0] at h; exact absurd h h0
theorem next_ok12 {s : ByteArray} {a : Nat} (ha : a ≤ s.size) (h : (next s a).2.2 = 0) : a + 12 ≤ (next s a).2.1 ∧ (next s a).2.1 ≤ s.size := by
  unfold next at h ⊢
  dsimp only at h ⊢
  by_cases h0 : (head (s.extract a s.size)).2 = 0
  · rw [if_pos h0]
    obtain ⟨e1, e2, e3, _⟩ := head_ok h0
    dsimp only
    have : (s.extract a s.size).size = s.size - a := by simp
    omega
  · rw [if_neg h0] at h; exact absurd h h0
/-- all frames from a place on -/
def all (s : ByteArray) (a : Nat) : List ByteArray × Nat × Nat :=
  if h : a ≤ s.size ∧ (next s a).2.2 = 0 then ((next s a).1 :: (all s (next s a).2.1).1, (all s (next s a).2.1).2)
  else ([], a, if (next s a).2.2 = 3 then 0 else (next s a).2.2)
termination_by s.size - a
decreasing_by all_goals (have := next_ok h.1 h.2; omega)
theorem all_more {s : ByteArray} {a : Nat} (ha : a ≤ s.size) (h : (next s a).2.2 = 0) : all s a = ((next s a).1 :: (all s (next s a).2.1).1, (all s (next s a).2.1).2) := by
  rw [all, dif_pos ⟨ha, h⟩]
theorem all_end {s : ByteArray} {a : Nat} (h : (next s a).2.2 ≠ 0) : all s a = ([], a, if (next s a).2.2 = 3 then 0 else (next s a).2.2) := by
  rw [all, dif_neg (fun k => h k.2)]
theorem all_len : ∀ (n : Nat) (s : ByteArray) (a : Nat), s.size - a ≤ n → a ≤ s.size → (all s a).1.length ≤ s.size - a
  | n, s, a, hn, ha => by
    by_cases h : (next s a).2.2 = 0
    · have hk := next_ok ha h
      rw [all_more ha h]
      cases n with
      | zero => omega
      | succ n =>
        have := all_len n s (next s a).2.1 (by omega) hk.2
        simp only [List.length_cons]
        omega
    · rw [all_end h]; simp
end Go.Proofs.YtpbofigfcdojgaaDoor.Fr4
