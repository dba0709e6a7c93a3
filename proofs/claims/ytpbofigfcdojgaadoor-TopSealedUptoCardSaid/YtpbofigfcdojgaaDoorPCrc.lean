/- Plain laws of the checksum: no program in sight. -/
namespace Crc
/-- one bit through the register -/
def bit1 (r : Nat) : Nat := if r % 2 = 1 then (r / 2) ^^^ 2197175160 else r / 2
def tab : List Nat := [0, 274646895, 549293790, 820201905, 1098587580, 1361435347, 1640403810, 1905808397, 2197175160, 2460548119, 2722870694, 2987750089, 3280807620, 3553878443, 3811616794, 4084100981]
def nib (r : Nat) : Nat := (r / 16) ^^^ tab.getD (r % 16) 0
def bitN : Nat → Nat → Nat
  | 0, r => r
  | n + 1, r => bitN n (bit1 r)
def step (r b : Nat) : Nat := nib (nib (r ^^^ b))
def refStep (r b : Nat) : Nat := bitN 8 (r ^^^ b)

theorem xor_div2 (a b : Nat) : (a ^^^ b) / 2 = (a / 2) ^^^ (b / 2) := by
  apply Nat.eq_of_testBit_eq; intro i
  simp [Nat.testBit_div_two, Nat.testBit_xor]
theorem xor_mod2 (a b : Nat) : (a ^^^ b) % 2 = (a % 2 + b % 2) % 2 := by
  have h : (a ^^^ b).testBit 0 = (a.testBit 0 ^^ b.testBit 0) := Nat.testBit_xor ..
  simp only [Nat.testBit_zero] at h
  rcases Nat.mod_two_eq_zero_or_one (a ^^^ b) with hc | hc <;> rcases Nat.mod_two_eq_zero_or_one a with ha | ha <;> rcases Nat.mod_two_eq_zero_or_one b with hb | hb <;> rw [hc, ha, hb] at h <;> first | omega | exact absurd h (by decide)
theorem bit1_xor (a b : Nat) : bit1 (a ^^^ b) = bit1 a ^^^ bit1 b := by
  unfold bit1
  rw [xor_div2, xor_mod2]
  rcases Nat.mod_two_eq_zero_or_one a with ha | ha <;> rcases Nat.mod_two_eq_zero_or_one b with hb | hb <;> simp [ha, hb]
  · simp [Nat.xor_assoc]
  · rw [Nat.xor_assoc, Nat.xor_assoc]; congr 1; exact Nat.xor_comm _ _
  · generalize a / 2 = x; generalize b / 2 = y
    apply Nat.eq_of_testBit_eq; intro i
    simp only [Nat.testBit_xor]
    cases x.testBit i <;> cases y.testBit i <;> cases (2197175160 : Nat).testBit i <;> rfl
theorem bitN_xor (n a b : Nat) : bitN n (a ^^^ b) = bitN n a ^^^ bitN n b := by
  induction n generalizing a b with
  | zero => rfl
  | succ n ih => simp only [bitN, bit1_xor, ih]
theorem bit1_zero : bit1 0 = 0 := rfl
theorem bitN_zero (n : Nat) : bitN n 0 = 0 := by
  induction n with
  | zero => rfl
  | succ n ih => simp only [bitN, bit1_zero, ih]
theorem bit1_lt {r : Nat} (h : r < 4294967296) : bit1 r < 4294967296 := by
  unfold bit1
  split
  · exact Nat.xor_lt_two_pow (n := 32) (by omega) (by omega)
  · omega
theorem bitN_lt (n : Nat) {r : Nat} (h : r < 4294967296) : bitN n r < 4294967296 := by
  induction n generalizing r with
  | zero => exact h
  | succ n ih => exact ih (bit1_lt h)
theorem bitN_add (m n r : Nat) : bitN (m + n) r = bitN n (bitN m r) := by
  induction m generalizing r with
  | zero => simp [bitN]
  | succ m ih => rw [Nat.succ_add]; simp only [bitN, ih]
theorem bit1_double (h : Nat) : bit1 (2 * h) = h := by
  unfold bit1
  rw [if_neg (by omega)]; omega
theorem bit4_low : ∀ l, l < 16 → bitN 4 l = tab.getD l 0 := by decide
theorem bit4_high (h : Nat) : bitN 4 (16 * h) = h := by
  have e : 16 * h = 2 * (2 * (2 * (2 * h))) := by omega
  rw [e]; simp only [bitN, bit1_double]
theorem split16 (r : Nat) : r = (16 * (r / 16)) ^^^ (r % 16) := by
  apply Nat.eq_of_testBit_eq; intro i
  have e1 : 16 * (r / 16) = (r >>> 4) <<< 4 := by rw [Nat.shiftLeft_eq, Nat.shiftRight_eq_div_pow]; omega
  have e2 : r % 16 = r % 2 ^ 4 := rfl
  rw [e1, e2, Nat.testBit_xor, Nat.testBit_shiftLeft, Nat.testBit_shiftRight, Nat.testBit_mod_two_pow]
  by_cases h : i < 4
  · have h' : ¬ 4 ≤ i := by omega
    simp [h, h']
  · have h' : 4 ≤ i := by omega
    have : 4 + (i - 4) = i := by omega
    simp [h, h', this]
theorem nib_eq (r : Nat) : nib r = bitN 4 r := by
  conv => rhs; rw [split16 r]
  rw [bitN_xor, bit4_high, bit4_low _ (by omega)]
  rfl
theorem step_eq (r b : Nat) : step r b = refStep r b := by
  unfold step refStep
  rw [nib_eq, nib_eq, ← bitN_add]
def reg (r : Nat) (l : List UInt8) : Nat := l.foldl (fun r b => step r b.toNat) r
def inv (r : Nat) : Nat := r ^^^ 4294967295
def ext (c : Nat) (l : List UInt8) : Nat := inv (reg (inv c) l)
def refReg (r : Nat) (l : List UInt8) : Nat := l.foldl (fun r b => refStep r b.toNat) r
theorem reg_eq (r : Nat) (l : List UInt8) : reg r l = refReg r l := by
  unfold reg refReg
  congr 1; funext r b; exact step_eq _ _
theorem step_lt {r b : Nat} (h : r < 4294967296) (hb : b < 4294967296) : step r b < 4294967296 := by
  rw [step_eq]; exact bitN_lt 8 (Nat.xor_lt_two_pow (n := 32) h hb)
theorem reg_lt {r : Nat} (h : r < 4294967296) (l : List UInt8) : reg r l < 4294967296 := by
  induction l generalizing r with
  | nil => exact h
  | cons b l ih => exact ih (step_lt h (by have := b.toNat_lt; omega))
theorem inv_lt {r : Nat} (h : r < 4294967296) : inv r < 4294967296 := Nat.xor_lt_two_pow (n := 32) h (by omega)
theorem inv_inv (r : Nat) : inv (inv r) = r := by unfold inv; rw [Nat.xor_assoc, Nat.xor_self, Nat.xor_zero]
theorem ext_lt {c : Nat} (h : c < 4294967296) (l : List UInt8) : ext c l < 4294967296 := inv_lt (reg_lt (inv_lt h) l)
theorem reg_append (r : Nat) (l m : List UInt8) : reg r (l ++ m) = reg (reg r l) m := by simp [reg]
theorem ext_append (c : Nat) (l m : List UInt8) : ext c (l ++ m) = ext (ext c l) m := by
  unfold ext; rw [reg_append, inv_inv]
/-- linear: step of a sum -/
theorem step_xor (r q a b : Nat) : step (r ^^^ q) (a ^^^ b) = step r a ^^^ step q b := by
  simp only [step_eq, refStep]
  rw [← bitN_xor]; congr 1
  apply Nat.eq_of_testBit_eq; intro i
  simp only [Nat.testBit_xor]
  cases r.testBit i <;> cases q.testBit i <;> cases a.testBit i <;> cases b.testBit i <;> rfl
/-- injective -/
theorem bit1_inj0 {r : Nat} (h : r < 4294967296) (h0 : bit1 r = 0) : r = 0 := by
  unfold bit1 at h0
  split at h0
  · exfalso
    have h1 : r / 2 = 2197175160 := by
      have := congrArg (· ^^^ 2197175160) h0
      simpa [Nat.xor_assoc] using this
    omega
  · omega
theorem bitN_inj0 (n : Nat) {r : Nat} (h : r < 4294967296) (h0 : bitN n r = 0) : r = 0 := by
  induction n generalizing r with
  | zero => exact h0
  | succ n ih => exact bit1_inj0 h (ih (bit1_lt h) h0)

/-- the sum of two registers over the same bytes -/
theorem reg_xor_same (r q : Nat) (l : List UInt8) : reg r l ^^^ reg q l = bitN (8 * l.length) (r ^^^ q) := by
  induction l generalizing r q with
  | nil => rfl
  | cons b l ih =>
    have e : 8 * (b :: l).length = 8 + 8 * l.length := by simp; omega
    rw [e, bitN_add]
    show reg (step r b.toNat) l ^^^ reg (step q b.toNat) l = _
    rw [ih, ← step_xor, Nat.xor_self]
    congr 1
    simp [step_eq, refStep]
theorem reg_zipXor (r q : Nat) : ∀ (l m : List UInt8), l.length = m.length → reg r l ^^^ reg q m = reg (r ^^^ q) (List.zipWith (· ^^^ ·) l m) := by
  intro l
  induction l generalizing r q with
  | nil => intro m h; cases m with
    | nil => rfl
    | cons => simp at h
  | cons b l ih =>
    intro m h
    cases m with
    | nil => simp at h
    | cons c m =>
      show reg (step r b.toNat) l ^^^ reg (step q c.toNat) m = reg (step (r ^^^ q) (b ^^^ c).toNat) _
      rw [ih _ _ m (by simpa using h), UInt8.toNat_xor, step_xor]
def pack : List UInt8 → Nat
  | [] => 0
  | b :: l => b.toNat ^^^ (256 * pack l)
theorem bit8_high (h : Nat) : bitN 8 (256 * h) = h := by
  have e : 256 * h = 16 * (16 * h) := by omega
  rw [e, show (8 : Nat) = 4 + 4 from rfl, bitN_add, bit4_high, bit4_high]
theorem reg_pack (r : Nat) (l : List UInt8) : reg r l = bitN (8 * l.length) (r ^^^ pack l) := by
  induction l generalizing r with
  | nil => simp [reg, pack, bitN]
  | cons b l ih =>
    have e : 8 * (b :: l).length = 8 + 8 * l.length := by simp; omega
    rw [e, bitN_add]
    show reg (step r b.toNat) l = _
    rw [ih, pack, ← Nat.xor_assoc, bitN_xor 8, bit8_high, step_eq, refStep]
theorem pack_lt (l : List UInt8) : pack l < 2 ^ (8 * l.length) := by
  induction l with
  | nil => simp [pack]
  | cons b l ih =>
    have e : 2 ^ (8 * (b :: l).length) = 256 * 2 ^ (8 * l.length) := by
      rw [show 8 * (b :: l).length = 8 + 8 * l.length by simp; omega, Nat.pow_add]
    unfold pack
    have hb := b.toNat_lt
    have hp : 0 < 2 ^ (8 * l.length) := Nat.pow_pos (by decide)
    refine Nat.xor_lt_two_pow ?_ ?_ <;> rw [e] <;> omega
theorem pack_zero {l : List UInt8} (h : pack l = 0) : ∀ b ∈ l, b = 0 := by
  induction l with
  | nil => intro b hb; cases hb
  | cons a l ih =>
    unfold pack at h
    have hd : a.toNat = 256 * pack l := by
      have := congrArg (· ^^^ (256 * pack l)) h
      simpa [Nat.xor_assoc] using this
    have ha := a.toNat_lt
    have h0 : pack l = 0 := by omega
    have h1 : a.toNat = 0 := by omega
    intro b hb
    rcases List.mem_cons.1 hb with rfl | hb
    · exact UInt8.toNat_inj.1 (by simpa using h1)
    · exact ih h0 b hb
theorem reg_zeros (r n : Nat) : reg r (List.replicate n 0) = bitN (8 * n) r := by
  have h : pack (List.replicate n 0) = 0 := by
    induction n with
    | zero => rfl
    | succ n ih => simp [List.replicate_succ, pack, ih]
  rw [reg_pack, h]; simp
/-- a burst: zeros, at most four bytes that are not all zero, zeros -/
theorem reg_burst (a c : Nat) (x : List UInt8) (hx : x.length ≤ 4) (hne : ∃ b ∈ x, b ≠ 0) : reg 0 (List.replicate a 0 ++ (x ++ List.replicate c 0)) ≠ 0 := by
  rw [reg_append, reg_append, reg_zeros, reg_zeros, bitN_zero, reg_pack]
  intro h
  have hp := pack_lt x
  have h32 : (2:Nat) ^ (8 * x.length) ≤ 2 ^ 32 := Nat.pow_le_pow_right (by decide) (by omega)
  have hl : 0 ^^^ pack x < 4294967296 := by rw [Nat.zero_xor]; omega
  have h1 := bitN_inj0 _ hl (bitN_inj0 _ (bitN_lt _ hl) h)
  rw [Nat.zero_xor] at h1
  obtain ⟨b, hb, hb0⟩ := hne
  exact hb0 (pack_zero h1 b hb)
theorem ext_zipXor (c : Nat) (l m : List UInt8) (h : l.length = m.length) : ext c l ^^^ ext c m = reg 0 (List.zipWith (· ^^^ ·) l m) := by
  have := reg_zipXor (inv c) (inv c) l m h
  rw [Nat.xor_self] at this
  rw [← this]
  unfold ext inv
  generalize reg _ l = x; generalize reg _ m = y
  apply Nat.eq_of_testBit_eq; intro i
  simp only [Nat.testBit_xor]
  cases x.testBit i <;> cases y.testBit i <;> cases (4294967295 : Nat).testBit i <;> rfl
theorem zipXor_back : ∀ (p l : List UInt8), p.length = l.length → List.zipWith (· ^^^ ·) l (List.zipWith (· ^^^ ·) p l) = p
  | [], [], _ => rfl
  | [], _ :: _, h => by simp at h
  | _ :: _, [], h => by simp at h
  | a :: p, b :: l, h => by
    have e : b ^^^ (a ^^^ b) = a := by rw [UInt8.xor_comm a b, ← UInt8.xor_assoc, UInt8.xor_self, UInt8.zero_xor]
    simp only [List.zipWith_cons_cons, e]
    rw [zipXor_back p l (by simpa using h)]
theorem ext_affine (la lb lc : List UInt8) (h1 : la.length = lb.length) (h2 : la.length = lc.length) :
    ext 0 la ^^^ ext 0 lb ^^^ ext 0 lc = ext 0 (List.zipWith (· ^^^ ·) (List.zipWith (· ^^^ ·) la lb) lc) := by
  have e1 := ext_zipXor 0 la lb h1
  have hl : (List.zipWith (· ^^^ ·) la lb).length = lc.length := by simp [h1, ← h2]
  have e2 := ext_zipXor 0 lc (List.zipWith (· ^^^ ·) (List.zipWith (· ^^^ ·) la lb) lc) (by simp [hl])
  rw [zipXor_back _ _ hl] at e2
  rw [e1, ← e2, Nat.xor_comm (ext 0 lc), Nat.xor_assoc, Nat.xor_self, Nat.xor_zero]
/-! ### a burst in a text -/
def xbyte (c i : Nat) : UInt8 := UInt8.ofNat (c / 2 ^ (8 * i))
def brst (l : List UInt8) (m c k : Nat) : List UInt8 := l.mapIdx fun j b => if m ≤ j ∧ j < m + k then b ^^^ xbyte c (j - m) else b
def bseen (n m c k : Nat) : Bool := (List.range k).any fun i => xbyte c i != 0 && decide (m + i < n)
theorem brst_zero (l : List UInt8) (m c : Nat) : brst l m c 0 = l := by
  unfold brst
  apply List.ext_getElem?
  intro j
  rw [List.getElem?_mapIdx]
  cases l[j]? with
  | none => rfl
  | some b => simp; omega
theorem bseen_succ (n m c k : Nat) : bseen n m c (k + 1) = (bseen n m c k || (xbyte c k != 0 && decide (m + k < n))) := by
  simp [bseen, List.range_succ]
theorem brst_succ (l : List UInt8) (m c k : Nat) : brst l m c (k + 1) = (brst l m c k).set (m + k) ((brst l m c k).getD (m + k) 0 ^^^ xbyte c k) := by
  apply List.ext_getElem?
  intro j
  rw [List.getElem?_set]
  unfold brst
  simp only [List.getElem?_mapIdx, List.length_mapIdx, List.getD_eq_getElem?_getD]
  by_cases h : m + k = j
  · subst h
    rw [if_pos rfl]
    by_cases hl : m + k < l.length
    · simp [hl, show ¬ (m + k < m + k) by omega, show m ≤ m + k ∧ m + k < m + (k + 1) by omega]
    · simp [hl]
  · rw [if_neg h]
    cases l[j]? with
    | none => rfl
    | some b =>
      by_cases h1 : m ≤ j ∧ j < m + k
      · have h2 : m ≤ j ∧ j < m + (k + 1) := by omega
        simp [h1, h2]
      · have h2 : ¬ (m ≤ j ∧ j < m + (k + 1)) := by omega
        simp [h1, h2]
theorem set_same (l : List UInt8) (j : Nat) (b : UInt8) (h : ∀ a, l[j]? = some a → a = b) : l.set j b = l := by
  apply List.ext_getElem?
  intro i
  rw [List.getElem?_set]
  by_cases e : j = i
  · subst e
    by_cases hl : j < l.length
    · have := h _ (List.getElem?_eq_getElem hl)
      simp [hl, this]
    · simp [hl]
  · simp [e]
theorem brst_none (l : List UInt8) (m c k : Nat) (h : xbyte c k = 0) : brst l m c (k + 1) = brst l m c k := by
  rw [brst_succ, h]
  refine set_same _ _ _ fun a ha => ?_
  rw [List.getD_eq_getElem?_getD, ha]; simp
theorem brst_out (l : List UInt8) (m c k : Nat) (h : ¬ m + k < l.length) : brst l m c (k + 1) = brst l m c k := by
  rw [brst_succ]
  refine set_same _ _ _ fun a ha => ?_
  have := (List.getElem?_eq_some_iff.1 ha).1
  simp [brst] at this; omega
theorem brst_in (l : List UInt8) (m c k : Nat) {a : UInt8} (h : (brst l m c k)[m + k]? = some a) : brst l m c (k + 1) = (brst l m c k).set (m + k) (a ^^^ xbyte c k) := by
  rw [brst_succ, List.getD_eq_getElem?_getD, h]; rfl
/-- what was turned: zeros, at most four bytes, zeros -/
theorem brst_diff (l : List UInt8) (m c : Nat) (hm : m < l.length) : List.zipWith (· ^^^ ·) (brst l m c 4) l =
    List.replicate m 0 ++ ((List.range (min 4 (l.length - m))).map (xbyte c) ++ List.replicate (l.length - m - 4) 0) := by
  apply List.ext_getElem?
  intro j
  simp only [List.getElem?_zipWith, brst, List.getElem?_mapIdx]
  by_cases hj : j < l.length
  · have e1 : l[j]? = some l[j] := List.getElem?_eq_getElem hj
    rw [e1]
    have xx (a b : UInt8) : a ^^^ b ^^^ a = b := by rw [UInt8.xor_comm a b, UInt8.xor_assoc, UInt8.xor_self, UInt8.xor_zero]
    by_cases h1 : j < m
    · rw [List.getElem?_append_left (by simpa using h1)]
      simp [h1, show ¬ (m ≤ j ∧ j < m + 4) by omega]
    · rw [List.getElem?_append_right (by simp; omega), List.length_replicate]
      by_cases h2 : j < m + 4
      · rw [List.getElem?_append_left (by simp; omega)]
        simp [show m ≤ j by omega, h2, xx, show j - m < min 4 (l.length - m) by omega]
      · rw [List.getElem?_append_right (by simp; omega)]
        rw [List.getElem?_replicate, if_pos (by simp; omega), Option.map_some, if_neg (by omega)]; simp
  · have e1 : l[j]? = none := List.getElem?_eq_none (by omega)
    rw [e1, List.getElem?_eq_none]
    · rfl
    · simp; omega
theorem burst_seen (l : List UInt8) (m c : Nat) (hm : m < l.length) (h : bseen l.length m c 4 = true) : ext 0 (brst l m c 4) ≠ ext 0 l := by
  intro he
  have h1 := ext_zipXor 0 (brst l m c 4) l (by simp [brst])
  rw [he, Nat.xor_self, brst_diff l m c hm] at h1
  refine reg_burst m (l.length - m - 4) ((List.range (min 4 (l.length - m))).map (xbyte c)) (by simp; omega) ?_ h1.symm
  unfold bseen at h
  obtain ⟨i, hi, h2⟩ := List.any_eq_true.1 h
  simp at hi h2
  exact ⟨xbyte c i, List.mem_map.2 ⟨i, by simp; omega, rfl⟩, h2.1⟩
/-! ### Join -/
def ofL : List Nat → Nat → Nat
  | [], _ => 0
  | c :: cs, r => (if r % 2 = 1 then c else 0) ^^^ ofL cs (r / 2)
def cols (f : Nat → Nat) : Nat → List Nat
  | 0 => []
  | n + 1 => f 1 :: cols (fun x => f (2 * x)) n
theorem xor_split (r : Nat) : r = (r % 2) ^^^ (2 * (r / 2)) := by
  apply Nat.eq_of_testBit_eq; intro i
  have e1 : 2 * (r / 2) = (r >>> 1) <<< 1 := by rw [Nat.shiftLeft_eq, Nat.shiftRight_eq_div_pow]; omega
  have e2 : r % 2 = r % 2 ^ 1 := rfl
  rw [e1, e2, Nat.testBit_xor, Nat.testBit_shiftLeft, Nat.testBit_shiftRight, Nat.testBit_mod_two_pow]
  by_cases h : i < 1
  · have h' : ¬ 1 ≤ i := by omega
    simp [h, h']
  · have h' : 1 ≤ i := by omega
    have : 1 + (i - 1) = i := by omega
    simp [h, h', this]
theorem double_xor (a b : Nat) : 2 * (a ^^^ b) = (2 * a) ^^^ (2 * b) := by
  apply Nat.eq_of_testBit_eq; intro i
  have e (x : Nat) : 2 * x = x <<< 1 := by rw [Nat.shiftLeft_eq]; omega
  rw [e, e, e]
  simp only [Nat.testBit_xor, Nat.testBit_shiftLeft]
  cases decide (i ≥ 1) <;> simp
theorem ofL_cols (n : Nat) : ∀ (f : Nat → Nat) (_ : ∀ a b, f (a ^^^ b) = f a ^^^ f b) (r : Nat), r < 2 ^ n → ofL (cols f n) r = f r := by
  induction n with
  | zero =>
    intro f hf r hr
    obtain rfl : r = 0 := by simpa using hr
    have f0 : f 0 = 0 := by have := hf 0 0; simpa using this
    simp [ofL, cols, f0]
  | succ n ih =>
    intro f hf r hr
    have f0 : f 0 = 0 := by have := hf 0 0; simpa using this
    rw [cols, ofL, ih _ (fun a b => by rw [double_xor, hf]) (r / 2) (by rw [Nat.pow_succ] at hr; omega)]
    conv => rhs; rw [xor_split r, hf]
    rcases Nat.mod_two_eq_zero_or_one r with h | h <;> simp [h, f0]
theorem cols_length (f : Nat → Nat) (n : Nat) : (cols f n).length = n := by
  induction n generalizing f with
  | zero => rfl
  | succ n ih => simp [cols, ih]
theorem cols_get (n : Nat) : ∀ (f : Nat → Nat) (i : Nat), i < n → (cols f n).getD i 0 = f (2 ^ i) := by
  induction n with
  | zero => intro f i h; omega
  | succ n ih =>
    intro f i h
    cases i with
    | zero => rfl
    | succ i =>
      have := ih (fun x => f (2 * x)) i (by omega)
      rw [cols, List.getD_cons_succ, this, Nat.pow_succ, Nat.mul_comm]
theorem cols_congr (n : Nat) : ∀ (f g : Nat → Nat), (∀ i, i < n → f (2 ^ i) = g (2 ^ i)) → cols f n = cols g n := by
  induction n with
  | zero => intro f g h; rfl
  | succ n ih =>
    intro f g h
    rw [cols, cols, show f 1 = g 1 from h 0 (by omega)]
    congr 1
    exact ih _ _ fun i hi => by have := h (i + 1) (by omega); rwa [Nat.pow_succ, Nat.mul_comm] at this
/-- the map done so often, by squares -/
def joinN (a : Nat) : Nat → Nat → Nat → Nat
  | 0, _, _ => a
  | k + 1, j, n => if n = 0 then a else joinN (if n % 2 = 1 then bitN (8 * j) a else a) k (2 * j) (n / 2)
theorem joinN_eq (k : Nat) : ∀ (a j n : Nat), n < 2 ^ k → joinN a k j n = bitN (8 * (j * n)) a := by
  induction k with
  | zero => intro a j n h; obtain rfl : n = 0 := by simpa using h
            simp [joinN, bitN]
  | succ k ih =>
    intro a j n h
    rw [joinN]
    by_cases h0 : n = 0
    · rw [if_pos h0, h0]; simp [bitN]
    · rw [if_neg h0, ih _ _ _ (by rw [Nat.pow_succ] at h; omega)]
      rcases Nat.mod_two_eq_zero_or_one n with h1 | h1
      · rw [if_neg (by omega)]
        congr 2
        rw [Nat.mul_comm 2 j, Nat.mul_assoc, show 2 * (n / 2) = n by omega]
      · rw [if_pos h1, ← bitN_add]
        congr 1
        have : j * n = j * (2 * (n / 2)) + j * 1 := by rw [← Nat.mul_add]; congr 1; omega
        rw [this, Nat.mul_comm 2 j, Nat.mul_assoc]; omega
theorem ext_join (s t : List UInt8) : ext 0 (s ++ t) = bitN (8 * t.length) (ext 0 s) ^^^ ext 0 t := by
  have h := reg_xor_same (reg (inv 0) s) (inv 0) t
  unfold ext
  rw [reg_append]
  have e : inv (reg (inv 0) s) = reg (inv 0) s ^^^ inv 0 := by unfold inv; simp
  rw [e, ← h]
  unfold inv
  generalize reg (reg _ s) t = x; generalize reg _ t = y
  apply Nat.eq_of_testBit_eq; intro i
  simp only [Nat.testBit_xor]
  cases x.testBit i <;> cases y.testBit i <;> cases (4294967295 : Nat).testBit i <;> rfl
theorem ref_join (a n b : Nat) : ((bitN (8 * n) (inv a) ^^^ 4294967295) ^^^ b ^^^ bitN (8 * n) 4294967295 ^^^ 4294967295) = bitN (8 * n) a ^^^ b := by
  unfold inv
  rw [bitN_xor]
  generalize bitN (8 * n) a = x; generalize bitN (8 * n) 4294967295 = y
  apply Nat.eq_of_testBit_eq; intro i
  simp only [Nat.testBit_xor]
  cases x.testBit i <;> cases y.testBit i <;> cases b.testBit i <;> cases (4294967295 : Nat).testBit i <;> rfl
end Crc
