/- Plain laws: a half of a frame with a burst of up to four bytes is seen. (Under way.) -/
import Derived.Test.YtpbofigfcdojgaaDoorPCuts
namespace Go.Proofs.YtpbofigfcdojgaaDoor.Fr4
set_option linter.unusedVariables false
set_option linter.unusedSimpArgs false
theorem xor_up8 (a h : Nat) (ha : a < 256) : a ^^^ 256 * h = a + 256 * h := by
  have h1 : (a ^^^ 256 * h) % 2 ^ 8 = (a % 2 ^ 8) ^^^ (256 * h % 2 ^ 8) := Nat.xor_mod_two_pow
  have h2 : (a ^^^ 256 * h) / 2 ^ 8 = (a / 2 ^ 8) ^^^ (256 * h / 2 ^ 8) := Nat.xor_div_two_pow
  rw [show 256 * h % 2 ^ 8 = 0 by omega, Nat.xor_zero] at h1
  rw [show a / 2 ^ 8 = 0 by omega, Nat.zero_xor] at h2
  omega
theorem pack_le4 (n : Nat) (h : n < 4294967296) : Crc.pack (le4 n) = n := by
  unfold le4
  simp only [Crc.pack, UInt8.toNat_ofNat']
  rw [Nat.mul_zero, Nat.xor_zero, xor_up8 _ _ (by omega), xor_up8 _ _ (by omega), xor_up8 _ _ (by omega)]
  omega
theorem residue (r : Nat) (h : r < 4294967296) : Crc.reg r (le4 (Crc.inv r)) = Crc.bitN 32 4294967295 := by
  rw [Crc.reg_pack, pack_le4 _ (Crc.inv_lt h)]
  unfold Crc.inv
  rw [← Nat.xor_assoc, Nat.xor_self, Nat.zero_xor]; rfl
/-- two codewords of one length whose difference is one burst of up to four bytes are the same -/
theorem codeword (l m : List UInt8) (hl : l.length = m.length) (a c : Nat) (x : List UInt8) (hx : x.length ≤ 4) (hne : ∃ b ∈ x, b ≠ 0)
    (hd : List.zipWith (· ^^^ ·) (l ++ le4 (Crc.ext 0 l)) (m ++ le4 (Crc.ext 0 m)) = List.replicate a 0 ++ (x ++ List.replicate c 0)) : False := by
  have key : ∀ l : List UInt8, Crc.reg (Crc.inv 0) (l ++ le4 (Crc.ext 0 l)) = Crc.bitN 32 4294967295 := fun l => by
    rw [Crc.reg_append]
    exact residue _ (Crc.reg_lt (Crc.inv_lt (by decide)) l)
  have h := Crc.reg_zipXor (Crc.inv 0) (Crc.inv 0) (l ++ le4 (Crc.ext 0 l)) (m ++ le4 (Crc.ext 0 m)) (by rw [List.length_append, List.length_append, hl]; rfl)
  rw [key, key, Nat.xor_self, Nat.xor_self, hd] at h
  exact Crc.reg_burst a c x hx hne h.symm
theorem zip_take (l m : List UInt8) (n : Nat) : List.zipWith (· ^^^ ·) (l.take n) (m.take n) = (List.zipWith (· ^^^ ·) l m).take n := List.take_zipWith.symm
/-- the head's half of a frame, changed, is seen -/
theorem head_seen (B t L : List UInt8) (hB : B.length ≤ 1048576) (hl : 8 ≤ L.length) (a c : Nat) (x : List UInt8) (hx : x.length ≤ 4) (hne : ∃ b ∈ x, b ≠ 0)
    (hd : List.zipWith (· ^^^ ·) (L.take 8) ((fl B ++ t).take 8) = List.replicate a 0 ++ (x ++ List.replicate c 0)) : headL L = (0, 24) := by
  unfold headL
  rw [if_neg (by omega), if_neg (by omega), if_pos ?_]
  intro e
  have h1 : L.take 8 = L.take 4 ++ le4 (Crc.ext 0 (L.take 4)) := by
    rw [e, show (8 : Nat) = 4 + 4 from rfl, List.take_add]
  have h2 : (fl B ++ t).take 8 = le4 B.length ++ le4 (Crc.ext 0 (le4 B.length)) := by
    unfold fl; simp only [List.append_assoc]; rfl
  rw [h1, h2] at hd
  exact codeword _ _ (by rw [List.length_take, le4_length]; omega) a c x hx hne hd
/-- the body's half of a frame, changed, is seen -/
theorem body_seen (B t L : List UInt8) (hB : B.length ≤ 1048576) (hl : L.length = (fl B ++ t).length) (h8 : L.take 8 = (fl B ++ t).take 8) (a c : Nat) (x : List UInt8) (hx : x.length ≤ 4) (hne : ∃ b ∈ x, b ≠ 0)
    (hd : List.zipWith (· ^^^ ·) ((L.drop 8).take (B.length + 4)) (B ++ le4 (Crc.ext 0 B)) = List.replicate a 0 ++ (x ++ List.replicate c 0)) : headL L = (0, 24) := by
  have h2 : (fl B ++ t).take 8 = le4 B.length ++ le4 (Crc.ext 0 (le4 B.length)) := by
    unfold fl; simp only [List.append_assoc]; rfl
  have hL : L = le4 B.length ++ (le4 (Crc.ext 0 (le4 B.length)) ++ L.drop 8) := by
    rw [← List.append_assoc, ← h2, ← h8, List.take_append_drop]
  rw [List.length_append, fl_length] at hl
  have hdl : (L.drop 8).length = B.length + 4 + t.length := by rw [List.length_drop]; omega
  have hv : v4 L = B.length := by rw [hL]; exact v4_le4 _ (by omega) _
  unfold headL
  rw [if_neg (by omega), if_neg (by omega), if_neg (by rw [hL, take4_le4, drop4_le4, take4_le4]; simp), hv, if_neg (by omega), if_neg (by omega), if_pos ?_]
  intro e
  rw [← List.drop_drop] at e
  rw [List.take_add, ← e] at hd
  exact codeword _ _ (by rw [List.length_take]; omega) a c x hx hne hd
/-- nothing but up to four bytes in a row differ from 0 -/
def Burst (D : List UInt8) : Prop := ∃ (a : Nat) (x : List UInt8) (c : Nat), x.length ≤ 4 ∧ D = List.replicate a 0 ++ (x ++ List.replicate c 0)
theorem Burst.take {D : List UInt8} (h : Burst D) (n : Nat) : Burst (D.take n) := by
  obtain ⟨a, x, c, hx, rfl⟩ := h
  refine ⟨min n a, x.take (n - a), min (n - a - x.length) c, by rw [List.length_take]; omega, ?_⟩
  rw [List.take_append, List.take_append, List.take_replicate, List.take_replicate, List.length_replicate]
theorem Burst.drop {D : List UInt8} (h : Burst D) (n : Nat) : Burst (D.drop n) := by
  obtain ⟨a, x, c, hx, rfl⟩ := h
  refine ⟨a - n, x.drop (n - a), c - (n - a - x.length), by rw [List.length_drop]; omega, ?_⟩
  rw [List.drop_append, List.drop_append, List.drop_replicate, List.drop_replicate, List.length_replicate]
theorem Burst.nonzero {D : List UInt8} (h : Burst D) (hn : ∃ b ∈ D, b ≠ 0) : ∃ (a : Nat) (x : List UInt8) (c : Nat), x.length ≤ 4 ∧ (∃ b ∈ x, b ≠ 0) ∧ D = List.replicate a 0 ++ (x ++ List.replicate c 0) := by
  obtain ⟨a, x, c, hx, rfl⟩ := h
  obtain ⟨b, hb, h0⟩ := hn
  refine ⟨a, x, c, hx, ⟨b, ?_, h0⟩, rfl⟩
  rcases List.mem_append.1 hb with h | h
  · exact absurd (List.mem_replicate.1 h).2 h0
  · rcases List.mem_append.1 h with h | h
    · exact h
    · exact absurd (List.mem_replicate.1 h).2 h0
/-- a frame ahead of whatever, with a burst over it: it is seen, or the frame stands as it was -/
theorem frame_burst (B t L : List UInt8) (hB : B.length ≤ 1048576) (hl : L.length = (fl B ++ t).length) (hb : Burst (List.zipWith (· ^^^ ·) L (fl B ++ t))) :
    ((∃ b ∈ (List.zipWith (· ^^^ ·) L (fl B ++ t)).take (B.length + 12), b ≠ 0) ∧ headL L = (0, 24)) ∨ L.take (B.length + 12) = fl B := by
  have hlen := hl
  rw [List.length_append, fl_length] at hlen
  have same : ∀ l m : List UInt8, l.length = m.length → (¬ ∃ b ∈ List.zipWith (· ^^^ ·) l m, b ≠ 0) → l = m := by
    intro l
    induction l with
    | nil => intro m h _; cases m; rfl; simp at h
    | cons x l ih =>
      intro m h hn
      cases m with
      | nil => simp at h
      | cons y m =>
        have h0 : x ^^^ y = 0 := Classical.byContradiction fun h => hn ⟨_, by simp, h⟩
        have hxy : x = y := by
          have h4 : x ^^^ y ^^^ y = 0 ^^^ y := by rw [h0]
          rwa [UInt8.xor_assoc, UInt8.xor_self, UInt8.xor_zero, UInt8.zero_xor] at h4
        rw [hxy, ih m (by simpa using h) (fun ⟨b, hb, h1⟩ => hn ⟨b, by simp [hb], h1⟩)]
  by_cases h1 : ∃ b ∈ (List.zipWith (· ^^^ ·) L (fl B ++ t)).take 8, b ≠ 0
  · obtain ⟨a, x, c, hx, hne, hd⟩ := (hb.take 8).nonzero h1
    obtain ⟨b, hbm, h0⟩ := h1
    refine .inl ⟨⟨b, ?_, h0⟩, head_seen B t L hB (by omega) a c x hx hne (by rw [zip_take]; exact hd)⟩
    rw [show B.length + 12 = 8 + (B.length + 4) by omega, List.take_add]
    exact List.mem_append_left _ hbm
  · have h8 : L.take 8 = (fl B ++ t).take 8 := same _ _ (by simp only [List.length_take]; omega) (by rw [zip_take]; exact h1)
    have hB8 : ((fl B ++ t).drop 8).take (B.length + 4) = B ++ le4 (Crc.ext 0 B) := by
      have : (fl B ++ t).drop 8 = (B ++ le4 (Crc.ext 0 B)) ++ t := by unfold fl; simp only [List.append_assoc]; exact drop8_le4 _ _ _
      rw [this, List.take_left' (by rw [List.length_append, le4_length])]
    have hz : List.zipWith (· ^^^ ·) ((L.drop 8).take (B.length + 4)) (B ++ le4 (Crc.ext 0 B)) = ((List.zipWith (· ^^^ ·) L (fl B ++ t)).drop 8).take (B.length + 4) := by
      rw [← hB8, zip_take, List.drop_zipWith]
    by_cases h2 : ∃ b ∈ ((List.zipWith (· ^^^ ·) L (fl B ++ t)).drop 8).take (B.length + 4), b ≠ 0
    · obtain ⟨a, x, c, hx, hne, hd⟩ := ((hb.drop 8).take (B.length + 4)).nonzero h2
      obtain ⟨b, hbm, h0⟩ := h2
      refine .inl ⟨⟨b, ?_, h0⟩, body_seen B t L hB hl h8 a c x hx hne (by rw [hz]; exact hd)⟩
      rw [show B.length + 12 = 8 + (B.length + 4) by omega, List.take_add]
      exact List.mem_append_right _ hbm
    · refine .inr ?_
      have h3 : (L.drop 8).take (B.length + 4) = B ++ le4 (Crc.ext 0 B) := same _ _ (by simp only [List.length_take, List.length_drop, List.length_append, le4_length]; omega) (by rw [hz]; exact h2)
      rw [show B.length + 12 = 8 + (B.length + 4) by omega, List.take_add, h3, h8]
      unfold fl; simp only [List.append_assoc]; rfl
theorem zip_self (l : List UInt8) : ∀ b ∈ List.zipWith (· ^^^ ·) l l, b = 0 := by
  induction l with
  | nil => intro b hb; simp at hb
  | cons x l ih =>
    intro b hb
    rw [List.zipWith_cons_cons, UInt8.xor_self] at hb
    rcases List.mem_cons.1 hb with h | h
    · exact h
    · exact ih b h
/-- a burst in a stream of frames ends the reading at the frame where it begins -/
theorem sealed : ∀ (bs : List ByteArray) (s : ByteArray) (a : Nat), (∀ b ∈ bs, b.size ≤ 1048576) → a ≤ s.size → (s.data.toList.drop a).length = (flat bs).length → Burst (List.zipWith (· ^^^ ·) (s.data.toList.drop a) (flat bs)) →
    (∃ b ∈ List.zipWith (· ^^^ ·) (s.data.toList.drop a) (flat bs), b ≠ 0) → ∃ j p, j < bs.length ∧ all s a = (bs.take j, p, 24)
  | [], s, a, _, _, _, _, ⟨b, hb, _⟩ => by simp [flat] at hb
  | b :: bs, s, a, hb, ha, hl, hD, hn => by
    have hbb := hb b (by simp)
    have hbl : b.data.toList.length = b.size := by simp
    have hsl : s.data.toList.length = s.size := by simp
    rw [flat] at hl hD hn
    rcases frame_burst b.data.toList (flat bs) (s.data.toList.drop a) (by omega) hl hD with ⟨_, h⟩ | h
    · exact ⟨0, a, by simp, by rw [all_err s a 24 h (by decide)]; rfl⟩
    · have hfr : s.data.toList.drop a = fl b.data.toList ++ (s.data.toList.drop a).drop (b.data.toList.length + 12) := by
        rw [← h, List.take_append_drop]
      have hx := next_frame s b a _ hbb hfr
      have hl2 := hl
      rw [List.length_append, fl_length, List.length_drop] at hl2
      have hdd : (s.data.toList.drop a).drop (b.data.toList.length + 12) = s.data.toList.drop (a + 12 + b.size) := by rw [List.drop_drop]; congr 1; omega
      have hz : List.zipWith (· ^^^ ·) (s.data.toList.drop a) (fl b.data.toList ++ flat bs) = List.zipWith (· ^^^ ·) (fl b.data.toList) (fl b.data.toList) ++ List.zipWith (· ^^^ ·) (s.data.toList.drop (a + 12 + b.size)) (flat bs) := by
        rw [hfr, hdd, List.zipWith_append rfl]
      have hD2 : Burst (List.zipWith (· ^^^ ·) (s.data.toList.drop (a + 12 + b.size)) (flat bs)) := by
        have h2 := hD.drop (fl b.data.toList).length
        rw [hz, List.drop_left' (by simp)] at h2
        exact h2
      have hn2 : ∃ x ∈ List.zipWith (· ^^^ ·) (s.data.toList.drop (a + 12 + b.size)) (flat bs), x ≠ 0 := by
        obtain ⟨x, hx, h0⟩ := hn
        rw [hz] at hx
        rcases List.mem_append.1 hx with h | h
        · exact absurd (zip_self _ x h) h0
        · exact ⟨x, h, h0⟩
      obtain ⟨j, p, hj, he⟩ := sealed bs s (a + 12 + b.size) (fun x hx => hb x (by simp [hx])) (by omega) (by rw [List.length_drop]; omega) hD2 hn2
      refine ⟨j + 1, p, by simp; omega, ?_⟩
      rw [all_more ha (by rw [hx]), hx]
      dsimp only
      rw [he]
      rfl
end Go.Proofs.YtpbofigfcdojgaaDoor.Fr4
