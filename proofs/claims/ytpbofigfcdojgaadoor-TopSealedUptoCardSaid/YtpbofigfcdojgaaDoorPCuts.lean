/- Plain laws of frames cut short or changed. (Under way.) -/
import Derived.Test.YtpbofigfcdojgaaDoorPFrame
namespace Go.Proofs.YtpbofigfcdojgaaDoor.Fr4
set_option linter.unusedVariables false
set_option linter.unusedSimpArgs false
theorem ba_eq {a b : ByteArray} : a = b ↔ a.data.toList = b.data.toList := ⟨fun e => by rw [e], fun e => by cases a; cases b; simp at e; rw [e]⟩
def v4 (L : List UInt8) : Nat := (L.getD 0 0).toNat + (L.getD 1 0).toNat * 256 + (L.getD 2 0).toNat * 65536 + (L.getD 3 0).toNat * 16777216
def headL (L : List UInt8) : Nat × Nat :=
  if L.length = 0 then (0, 3)
  else if L.length < 8 then (0, 23)
  else if le4 (Crc.ext 0 (L.take 4)) ≠ (L.drop 4).take 4 then (0, 24)
  else if 1048576 < v4 L then (0, 24)
  else if L.length < v4 L + 12 then (0, 23)
  else if le4 (Crc.ext 0 ((L.drop 8).take (v4 L))) ≠ (L.drop (8 + v4 L)).take 4 then (0, 24)
  else (v4 L, 0)
theorem ex_list (r : ByteArray) (a b : Nat) : (r.extract a b).data.toList = (r.data.toList.drop a).take (b - a) := by simp
theorem sum_list (r : ByteArray) : (sum r).data.toList = le4 (Crc.ext 0 r.data.toList) := rfl
theorem head_list (r : ByteArray) : head r = headL r.data.toList := by
  have hs : r.data.toList.length = r.size := by simp
  unfold head headL
  rw [hs, show val4 r = v4 r.data.toList from rfl]
  have e1 : (sum (r.extract 0 4) ≠ r.extract 4 8) = (le4 (Crc.ext 0 (r.data.toList.take 4)) ≠ (r.data.toList.drop 4).take 4) := by
    rw [Ne, Ne, ba_eq, sum_list, ex_list, ex_list]; rfl
  have e2 : (sum (r.extract 8 (8 + v4 r.data.toList)) ≠ r.extract (8 + v4 r.data.toList) (12 + v4 r.data.toList)) = (le4 (Crc.ext 0 ((r.data.toList.drop 8).take (v4 r.data.toList))) ≠ (r.data.toList.drop (8 + v4 r.data.toList)).take 4) := by
    rw [Ne, Ne, ba_eq, sum_list, ex_list, ex_list, show 8 + v4 r.data.toList - 8 = v4 r.data.toList by omega, show 12 + v4 r.data.toList - (8 + v4 r.data.toList) = 4 by omega]
  simp only [e1, e2]
/-- the frame of a body, as a list -/
def fl (B : List UInt8) : List UInt8 := le4 B.length ++ (le4 (Crc.ext 0 (le4 B.length)) ++ (B ++ le4 (Crc.ext 0 B)))
theorem le4_length (n : Nat) : (le4 n).length = 4 := rfl
theorem fl_length (B : List UInt8) : (fl B).length = B.length + 12 := by simp [fl, le4_length]; omega
theorem le4_inj {a b : Nat} (ha : a < 4294967296) (hb : b < 4294967296) (h : le4 a = le4 b) : a = b := by
  unfold le4 at h
  simp only [List.cons.injEq, and_true] at h
  obtain ⟨h0, h1, h2, h3⟩ := h
  have f : ∀ x y : Nat, UInt8.ofNat x = UInt8.ofNat y → x % 256 = y % 256 := fun x y e => by
    have := congrArg UInt8.toNat e
    rwa [UInt8.toNat_ofNat', UInt8.toNat_ofNat'] at this
  have := f _ _ h0; have := f _ _ h1; have := f _ _ h2; have := f _ _ h3
  omega
theorem v4_le4 (n : Nat) (hn : n < 4294967296) (t : List UInt8) : v4 (le4 n ++ t) = n := by
  unfold v4 le4
  simp only [List.cons_append, List.getD_cons_zero, List.getD_cons_succ, UInt8.toNat_ofNat']
  omega
theorem take4_le4 (n : Nat) (t : List UInt8) : (le4 n ++ t).take 4 = le4 n := rfl
theorem drop4_le4 (n : Nat) (t : List UInt8) : (le4 n ++ t).drop 4 = t := rfl
theorem drop8_le4 (n m : Nat) (t : List UInt8) : (le4 n ++ (le4 m ++ t)).drop 8 = t := rfl
/-- a whole frame at the head -/
theorem headL_frame (B t : List UInt8) (hB : B.length ≤ 1048576) : headL (fl B ++ t) = (B.length, 0) := by
  have hl : (fl B ++ t).length = B.length + 12 + t.length := by rw [List.length_append, fl_length]
  have hv : v4 (fl B ++ t) = B.length := by unfold fl; rw [List.append_assoc]; exact v4_le4 _ (by omega) _
  unfold headL
  rw [if_neg (by omega), if_neg (by omega), if_neg (by unfold fl; simp only [List.append_assoc]; rw [take4_le4, drop4_le4, take4_le4]; simp), hv, if_neg (by omega), if_neg (by omega), if_neg ?_]
  have hd : (fl B ++ t).drop 8 = B ++ (le4 (Crc.ext 0 B) ++ t) := by unfold fl; simp only [List.append_assoc]; exact drop8_le4 _ _ _
  rw [← List.drop_drop, hd, List.take_left, List.drop_left, take4_le4]
  simp
/-- a frame cut short -/
theorem headL_torn (B : List UInt8) (k : Nat) (hB : B.length ≤ 1048576) (h0 : 0 < k) (hk : k < (fl B).length) : headL ((fl B).take k) = (0, 23) := by
  rw [fl_length] at hk
  have hl : ((fl B).take k).length = k := by rw [List.length_take, fl_length]; omega
  unfold headL
  rw [if_neg (by omega)]
  by_cases h8 : k < 8
  · rw [if_pos (by omega)]
  · rw [if_neg (by omega)]
    have ht : (fl B).take k = le4 B.length ++ (le4 (Crc.ext 0 (le4 B.length)) ++ ((B ++ le4 (Crc.ext 0 B)).take (k - 8))) := by
      unfold fl
      rw [List.take_append, List.take_append, le4_length, le4_length, List.take_of_length_le (by rw [le4_length]; omega), List.take_of_length_le (by rw [le4_length]; omega), show k - 4 - 4 = k - 8 by omega]
    have hv : v4 ((fl B).take k) = B.length := by rw [ht]; exact v4_le4 _ (by omega) _
    rw [if_neg (by rw [ht, take4_le4, drop4_le4, take4_le4]; simp), hv, if_neg (by omega), if_pos (by omega)]
theorem brst_one (l : List UInt8) (k : Nat) (a x : UInt8) (h : l[k]? = some a) : Crc.brst l k x.toNat 4 = l.set k (a ^^^ x) := by
  have hx := x.toNat_lt
  have z : ∀ i, 0 < i → i < 4 → Crc.xbyte x.toNat i = 0 := by
    intro i h1 h2
    unfold Crc.xbyte
    have : x.toNat / 2 ^ (8 * i) = 0 := Nat.div_eq_of_lt (Nat.lt_of_lt_of_le hx (Nat.pow_le_pow_right (by decide) (by omega)))
    rw [this]; rfl
  rw [show (4 : Nat) = 3 + 1 from rfl, Crc.brst_none _ _ _ _ (z 3 (by omega) (by omega)), show (3 : Nat) = 2 + 1 from rfl, Crc.brst_none _ _ _ _ (z 2 (by omega) (by omega)), show (2 : Nat) = 1 + 1 from rfl, Crc.brst_none _ _ _ _ (z 1 (by omega) (by omega)), show (1 : Nat) = 0 + 1 from rfl]
  rw [Crc.brst_in l k x.toNat 0 (a := a) (by rw [Crc.brst_zero]; exact h), Crc.brst_zero]
  have e : Crc.xbyte x.toNat 0 = x := by unfold Crc.xbyte; simp
  rw [e]; rfl
theorem one_seen (l : List UInt8) (k : Nat) (a x : UInt8) (h : l[k]? = some a) (hx : x ≠ 0) : Crc.ext 0 (l.set k (a ^^^ x)) ≠ Crc.ext 0 l := by
  have hk := (List.getElem?_eq_some_iff.1 h).1
  rw [← brst_one l k a x h]
  refine Crc.burst_seen l k x.toNat hk ?_
  unfold Crc.bseen
  rw [List.any_eq_true]
  refine ⟨0, by simp, ?_⟩
  have e : Crc.xbyte x.toNat 0 = x := by unfold Crc.xbyte; simp
  rw [e]
  simp [hx, hk]
theorem set_ne {l : List UInt8} {k : Nat} {a x : UInt8} (h : l[k]? = some a) (hx : x ≠ 0) : l.set k (a ^^^ x) ≠ l := by
  intro e
  have h2 : (l.set k (a ^^^ x))[k]? = some (a ^^^ x) := by rw [List.getElem?_set_self (List.getElem?_eq_some_iff.1 h).1]
  rw [e, h] at h2
  have h3 : a = a ^^^ x := by simpa using h2
  have h4 : a ^^^ a = a ^^^ (a ^^^ x) := congrArg (fun y => a ^^^ y) h3
  rw [← UInt8.xor_assoc, UInt8.xor_self, UInt8.zero_xor] at h4
  exact hx h4.symm
theorem getE_left {α : Type} {l m : List α} {k : Nat} {a : α} (h : (l ++ m)[k]? = some a) (hk : k < l.length) : l[k]? = some a := by rwa [List.getElem?_append_left hk] at h
theorem getE_right {α : Type} {l m : List α} {k : Nat} {a : α} (h : (l ++ m)[k]? = some a) (hk : l.length ≤ k) : m[k - l.length]? = some a := by rwa [List.getElem?_append_right hk] at h
theorem le4_ne {a b : Nat} (ha : a < 4294967296) (hb : b < 4294967296) (h : a ≠ b) : le4 a ≠ le4 b := fun e => h (le4_inj ha hb e)
theorem ext0_lt (l : List UInt8) : Crc.ext 0 l < 4294967296 := Crc.ext_lt (by decide) l
/-- a frame with one byte changed -/
theorem headL_bad (B t : List UInt8) (k : Nat) (a x : UInt8) (hB : B.length ≤ 1048576) (hk : k < (fl B).length) (ha : (fl B ++ t)[k]? = some a) (hx : x ≠ 0) : headL ((fl B ++ t).set k (a ^^^ x)) = (0, 24) := by
  rw [fl_length] at hk
  have hl : ((fl B ++ t).set k (a ^^^ x)).length = B.length + 12 + t.length := by rw [List.length_set, List.length_append, fl_length]
  unfold headL
  rw [if_neg (by omega), if_neg (by omega)]
  clear hl
  have hlen : (fl B ++ t).length = B.length + 12 + t.length := by rw [List.length_append, fl_length]
  unfold fl at ha ⊢
  simp only [List.append_assoc] at ha ⊢
  by_cases h4 : k < 4
  · have g := getE_left ha (by rw [le4_length]; exact h4)
    have hn := one_seen _ _ _ _ g hx
    rw [List.set_append_left _ _ (by rw [le4_length]; exact h4)]
    have e4 : (List.set (le4 B.length) k (a ^^^ x)).length = 4 := by rw [List.length_set, le4_length]
    rw [if_pos ?_]
    rw [List.take_append_of_le_length (by omega), List.take_of_length_le (by omega), List.drop_append, List.drop_of_length_le (by omega), e4, Nat.sub_self, List.drop_zero, List.nil_append, take4_le4]
    exact le4_ne (ext0_lt _) (ext0_lt _) hn
  · have g := getE_right ha (by rw [le4_length]; omega)
    rw [List.set_append_right _ _ (by rw [le4_length]; omega), le4_length] at *
    by_cases h8 : k < 8
    · have g2 := getE_left g (by rw [le4_length]; omega)
      rw [List.set_append_left _ _ (by rw [le4_length]; omega)]
      have e4 : (List.set (le4 (Crc.ext 0 (le4 B.length))) (k - 4) (a ^^^ x)).length = 4 := by rw [List.length_set, le4_length]
      rw [if_pos ?_]
      rw [take4_le4, drop4_le4, List.take_append_of_le_length (by omega), List.take_of_length_le (by omega)]
      exact (set_ne g2 hx).symm
    · have g2 := getE_right g (by rw [le4_length]; omega)
      rw [List.set_append_right _ _ (by rw [le4_length]; omega), le4_length] at *
      rw [if_neg (by rw [take4_le4, drop4_le4, take4_le4]; simp), v4_le4 _ (by omega), if_neg (by omega)]
      rw [if_neg (by simp only [List.length_append, List.length_set, le4_length]; omega), if_pos ?_]
      rw [← List.drop_drop, drop8_le4]
      by_cases hb : k - 4 - 4 < B.length
      · have g3 := getE_left g2 hb
        rw [List.set_append_left _ _ hb]
        have hn := one_seen _ _ _ _ g3 hx
        have e4 : (B.set (k - 4 - 4) (a ^^^ x)).length = B.length := List.length_set
        rw [List.take_append_of_le_length (by omega), List.take_of_length_le (by omega), List.drop_append, List.drop_of_length_le (by omega), e4, Nat.sub_self, List.drop_zero, List.nil_append, take4_le4]
        exact le4_ne (ext0_lt _) (ext0_lt _) hn
      · have g3 := getE_right g2 (by omega)
        have g4 := getE_left g3 (by rw [le4_length]; omega)
        rw [List.set_append_right _ _ (by omega), List.set_append_left _ _ (by rw [le4_length]; omega), List.take_left, List.drop_left]
        have e4 : (List.set (le4 (Crc.ext 0 B)) (k - 4 - 4 - B.length) (a ^^^ x)).length = 4 := by rw [List.length_set, le4_length]
        rw [List.take_append_of_le_length (by omega), List.take_of_length_le (by omega)]
        exact (set_ne g4 hx).symm
/-- frames one behind the other -/
def flat : List ByteArray → List UInt8
  | [] => []
  | b :: bs => fl b.data.toList ++ flat bs
theorem flat_app : ∀ (l m : List ByteArray), flat (l ++ m) = flat l ++ flat m
  | [], m => rfl
  | b :: l, m => by rw [List.cons_append, flat, flat, flat_app l m, List.append_assoc]
theorem frame_list (b : ByteArray) (h : b.size ≤ 1048576) : (frame b).data.toList = fl b.data.toList := by
  have hl : b.data.toList.length = b.size := by simp
  unfold frame fl
  rw [if_pos h, hl]
  simp only [ByteArray.data_append, Array.toList_append, List.append_assoc]
  rfl
theorem rest_list (s : ByteArray) (a : Nat) : (s.extract a s.size).data.toList = s.data.toList.drop a := by
  rw [ex_list, List.take_of_length_le (by simp)]
theorem next_frame (s b : ByteArray) (a : Nat) (t : List UInt8) (hb : b.size ≤ 1048576) (h : s.data.toList.drop a = fl b.data.toList ++ t) : next s a = (b, a + 12 + b.size, 0) := by
  have hl : b.data.toList.length = b.size := by simp
  have hh : head (s.extract a s.size) = (b.size, 0) := by rw [head_list, rest_list, h, headL_frame _ _ (by omega), hl]
  have hx : (s.extract a s.size).extract 8 (8 + b.size) = b := by
    rw [ba_eq, ex_list, rest_list, h]
    unfold fl
    simp only [List.append_assoc]
    rw [drop8_le4, show 8 + b.size - 8 = b.data.toList.length by omega, List.take_left]
  unfold next
  dsimp only
  rw [hh]
  dsimp only
  rw [if_pos rfl, hx]
theorem next_err (s : ByteArray) (a e : Nat) (h : headL (s.data.toList.drop a) = (0, e)) (he : e ≠ 0) : next s a = (⟨#[]⟩, 0, e) := by
  have hh : head (s.extract a s.size) = (0, e) := by rw [head_list, rest_list, h]
  unfold next
  dsimp only
  rw [hh]
  dsimp only
  rw [if_neg he]
theorem all_err (s : ByteArray) (a e : Nat) (h : headL (s.data.toList.drop a) = (0, e)) (he : e ≠ 0) : all s a = ([], a, if e = 3 then 0 else e) := by
  rw [all_end (by rw [next_err s a e h he]; exact he), next_err s a e h he]
theorem all_flat : ∀ (bs : List ByteArray) (s : ByteArray) (a : Nat) (t : List UInt8), (∀ b ∈ bs, b.size ≤ 1048576) → a ≤ s.size → s.data.toList.drop a = flat bs ++ t →
    all s a = (bs ++ (all s (a + (flat bs).length)).1, (all s (a + (flat bs).length)).2)
  | [], s, a, t, _, _, _ => by rw [flat]; simp
  | b :: bs, s, a, t, hb, ha, h => by
    rw [flat, List.append_assoc] at h
    have hl : b.data.toList.length = b.size := by simp
    have hn := next_frame s b a _ (hb b (by simp)) h
    have hlen := congrArg List.length h
    rw [List.length_drop, List.length_append, fl_length] at hlen
    have hs : s.data.toList.length = s.size := by simp
    have hd : s.data.toList.drop (a + 12 + b.size) = flat bs ++ t := by
      rw [show a + 12 + b.size = a + (fl b.data.toList).length by rw [fl_length]; omega, ← List.drop_drop, h, List.drop_left]
    rw [all_more ha (by rw [hn]), hn]
    dsimp only
    rw [all_flat bs s (a + 12 + b.size) t (fun x hx => hb x (by simp [hx])) (by omega) hd, flat, List.length_append, fl_length, show a + 12 + b.size + (flat bs).length = a + (b.data.toList.length + 12 + (flat bs).length) by omega]
    rfl
theorem cuts_all (bs : List ByteArray) (s : ByteArray) (hb : ∀ b ∈ bs, b.size ≤ 1048576) (hs : s.data.toList = flat bs) : all s 0 = (bs, s.size, 0) := by
  have hl : s.data.toList.length = s.size := by simp
  rw [all_flat bs s 0 [] hb (Nat.zero_le _) (by simpa using hs), Nat.zero_add, all_err s _ 3 (by rw [hs, List.drop_of_length_le (Nat.le_refl _)]; rfl) (by decide), ← hs, hl]
  simp
theorem flat_split (bs : List ByteArray) (n : Nat) (b : ByteArray) (rest : List ByteArray) (h : bs.drop n = b :: rest) : flat bs = flat (bs.take n) ++ (fl b.data.toList ++ flat rest) := by
  have := flat_app (bs.take n) (bs.drop n)
  rw [List.take_append_drop, h] at this
  exact this
theorem cuts_cut (bs : List ByteArray) (hb : ∀ b ∈ bs, b.size ≤ 1048576) (n : Nat) (b : ByteArray) (rest : List ByteArray) (h : bs.drop n = b :: rest) (c : Nat) (h1 : (flat (bs.take n)).length ≤ c) (h2 : c < (flat (bs.take n)).length + (fl b.data.toList).length)
    (s : ByteArray) (hs : s.data.toList = (flat bs).take c) : all s 0 = (bs.take n, (flat (bs.take n)).length, if c = (flat (bs.take n)).length then 0 else 23) := by
  have hl : b.data.toList.length = b.size := by simp
  have hbb : b.size ≤ 1048576 := hb b (List.mem_of_mem_drop (i := n) (by rw [h]; simp))
  obtain ⟨k, hk⟩ : ∃ k, c = (flat (bs.take n)).length + k := ⟨c - (flat (bs.take n)).length, by omega⟩
  have hs2 : s.data.toList = flat (bs.take n) ++ (fl b.data.toList).take k := by
    rw [hs, flat_split bs n b rest h, List.take_append, List.take_of_length_le h1, hk, Nat.add_sub_cancel_left, List.take_append_of_le_length (by omega)]
  rw [all_flat (bs.take n) s 0 _ (fun x hx => hb x (List.mem_of_mem_take hx)) (Nat.zero_le _) (by simpa using hs2), Nat.zero_add]
  have hd : s.data.toList.drop (flat (bs.take n)).length = (fl b.data.toList).take k := by rw [hs2, List.drop_left]
  by_cases h0 : k = 0
  · rw [all_err s _ 3 (by rw [hd, h0]; rfl) (by decide)]
    have hc : c = (flat (bs.take n)).length := by omega
    rw [if_pos hc]
    simp
  · rw [all_err s _ 23 (by rw [hd]; exact headL_torn _ k (by omega) (by omega) (by omega)) (by decide)]
    have hc : ¬ c = (flat (bs.take n)).length := by omega
    rw [if_neg hc]
    simp
theorem cuts_bad (bs : List ByteArray) (hb : ∀ b ∈ bs, b.size ≤ 1048576) (n : Nat) (b : ByteArray) (rest : List ByteArray) (h : bs.drop n = b :: rest) (c : Nat) (h1 : (flat (bs.take n)).length ≤ c) (h2 : c < (flat (bs.take n)).length + (fl b.data.toList).length)
    (a x : UInt8) (ha : (flat bs)[c]? = some a) (hx : x ≠ 0) (s : ByteArray) (hs : s.data.toList = (flat bs).set c (a ^^^ x)) : all s 0 = (bs.take n, (flat (bs.take n)).length, 24) := by
  have hl : b.data.toList.length = b.size := by simp
  have hbb : b.size ≤ 1048576 := hb b (List.mem_of_mem_drop (i := n) (by rw [h]; simp))
  rw [flat_split bs n b rest h] at ha hs
  have g := getE_right ha h1
  rw [List.set_append_right _ _ h1] at hs
  rw [all_flat (bs.take n) s 0 _ (fun x hx => hb x (List.mem_of_mem_take hx)) (Nat.zero_le _) (by simpa using hs), Nat.zero_add]
  rw [all_err s _ 24 (by rw [hs, List.drop_left]; exact headL_bad _ _ _ a x (by omega) (by omega) g hx) (by decide)]
  simp
end Go.Proofs.YtpbofigfcdojgaaDoor.Fr4
