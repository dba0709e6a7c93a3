/- What is put is put in its one form, item by item; two packs don't touch one another. -/
import Derived.Test.YtbpphflegjebaaaWireLaws
import Derived.Test.YtbpphflegjebaaaRead
namespace Go.Proofs.Ytbpphflegjebaaa
open Go.RowKit
set_option linter.unusedVariables false
set_option linter.unusedSimpArgs false
/-! ### items -/
structure Item where
  kind : Int
  n : Int
  s : ByteArray
  b : Bool
def Item.cells (x : Item) : List Value := [.int .i64 x.kind, .int .i64 x.n, .string x.s, .bool x.b]
structure Item.Wf (x : Item) : Prop where
  k1 : -9223372036854775808 ≤ x.kind
  k2 : x.kind ≤ 9223372036854775807
  n1 : -9223372036854775808 ≤ x.n
  n2 : x.n ≤ 9223372036854775807
  s1 : x.s.size ≤ 140737488351232
theorem item_flat : flat Try.prog 8 32 = some [.int .i64, .int .i64, .str, .bool] := by kernel_rfl
theorem opens_item (w : World) : Opens Try.prog w 32 (fun _ cs (x : Item) => cs = x.cells ∧ x.Wf) (fun x => vbulk x.cells) :=
  opens_flat item_flat Item.cells Item.Wf fun cs h => by
    obtain ⟨k, d1, rfl, k1, k2, ha⟩ := h.i64_inv
    obtain ⟨n, d2, rfl, n1, n2, hb⟩ := ha.i64_inv
    obtain ⟨s, d3, rfl, s1, hc⟩ := hb.str_inv
    obtain ⟨b, d4, rfl, hd⟩ := hc.bool_inv
    obtain rfl := hd.nil_inv
    exact ⟨⟨k, n, s, b⟩, rfl, k1, k2, n1, n2, s1⟩
def RItems := RSl 4 40 (fun (_ : World) (cs : List Value) (x : Item) => cs = x.cells ∧ x.Wf)
theorem opens_items (w : World) : Opens Try.prog w 29 RItems (bulkL fun (x : Item) => vbulk x.cells) :=
  opens_slice Try.underlying29 (by kernel_rfl) (by kernel_rfl) (by decide) (opens_item w)
/-- 0 a number, 1 a text, 2 a bool -/
def Item.kd (x : Item) : Nat := (x.kind % 3).toNat
def Item.enc (x : Item) : List UInt8 := if x.kd = 0 then Wire.enc x.n else if x.kd = 1 then Wire.enc x.s.size ++ x.s.data.toList else [if x.b then 1 else 0]
def encAll (xs : List Item) : List UInt8 := (xs.map Item.enc).flatten
theorem Item.kd_lt (x : Item) : x.kd < 3 := by unfold Item.kd; omega
theorem Item.enc_len {x : Item} (h : x.Wf) : x.enc.length ≤ 3 * vbulk x.cells := by
  have h1 := Wire.uv_len10 (Wire.zz_lt h.n1 h.n2)
  have h2 := Wire.uv_len10 (Wire.zz_lt (n := (x.s.size : Int)) (by omega) (by have := h.s1; omega))
  have hv : vbulk x.cells = x.s.size + 4 := by simp [vbulk, Item.cells, vb]; omega
  have hd : x.s.data.toList.length = x.s.size := by simp
  unfold Item.enc
  rw [hv]
  split
  · change (Wire.uv _).length ≤ _; omega
  · split
    · rw [List.length_append, hd]; change (Wire.uv _).length + _ ≤ _; omega
    · simp; omega
theorem encAll_len {xs : List Item} (h : ∀ x ∈ xs, x.Wf) : (encAll xs).length ≤ 3 * (xs.map fun x => vbulk x.cells).sum := by
  induction xs with
  | nil => simp [encAll]
  | cons x xs ih =>
    have h1 := Item.enc_len (h x (List.mem_cons_self ..))
    have h2 := ih fun y hy => h y (List.mem_cons_of_mem _ hy)
    simp only [encAll, List.map_cons, List.flatten_cons, List.length_append, List.sum_cons] at h2 ⊢
    omega
theorem encAll_take {xs : List Item} {k : Nat} {x : Item} (h : xs[k]? = some x) : encAll (xs.take (k + 1)) = encAll (xs.take k) ++ x.enc := by
  obtain ⟨hl, rfl⟩ := List.getElem?_eq_some_iff.1 h
  rw [List.take_succ_eq_append_getElem hl]
  simp only [encAll, List.map_append, List.map_cons, List.map_nil, List.flatten_append, List.flatten_cons, List.flatten_nil, List.append_nil]
theorem encAll_take_len (xs : List Item) (k : Nat) : (encAll (xs.take k)).length ≤ (encAll xs).length := by
  conv => rhs; rw [← List.take_append_drop k xs]
  simp only [encAll, List.map_append, List.flatten_append, List.length_append]
  omega
theorem tmod3 (k : Int) : ((k.tmod 3 + 3).tmod 3) = ((k % 3).toNat : Int) := by
  have h1 := Int.tmod_eq_emod (a := k) (b := 3)
  rw [h1]
  split
  · rw [Int.tmod_eq_emod_of_nonneg (by omega)]; omega
  · rw [Int.tmod_eq_emod_of_nonneg (by omega)]; simp; omega
set_option maxHeartbeats 1000000 in
theorem kind_any (k : Int) (h1 : -9223372036854775808 ≤ k) (h2 : k ≤ 9223372036854775807) (w : World) : Calls Try.prog 11 #[.int .i64 k] w fun e w' => e = .returned (.int .i64 ((k % 3).toNat : Int)) ∧ w = w' := by
  go_enter Try.func11, Try.ntmps11
  go_wp2_with fail
  go_ret
  refine ⟨ret_int ?_, rfl⟩
  rw [← tmod3]
  have : wrap64 (k.tmod 3 + 3) = k.tmod 3 + 3 := by
    have h1 := Int.tmod_lt_of_pos k (b := 3) (by decide)
    have h2 := Int.lt_tmod_of_pos k (b := 3) (by decide)
    unfold wrap64; omega
  rw [this]
theorem PackR.alloc {w w' : World} {b : Nat} {v v' : Value} (h : PackR w b v w' v') (o : Obj) : PackR w b v (w'.alloc o) v' := ⟨h.lies, h.fr.alloc o⟩
theorem PackR.setCell {w w' : World} {b : Nat} {v v' : Value} (h : PackR w b v w' v') (a : Addr) (u : Value) (ha : w.heap.size ≤ a.block) : PackR w b v (w'.setCell a u) v' := ⟨h.lies, h.fr.setCell a u fun e => by omega⟩
theorem PackR.below2 {w w1 w2 : World} {b : Nat} {v v1 : Value} (h : PackR w b v w1 v1) (hb : Below w1.heap.size w1 w2) : PackR w b v w2 v1 :=
  ⟨h.lies, h.fr.trans (Fr.of_below (S := fun k => w1.heap.size ≤ k) hb fun k e _ => e) fun x hx e => by have := h.fr.size; omega⟩
set_option maxRecDepth 20000 in
set_option maxHeartbeats 4000000 in
theorem wirePacks_walk (W : World) (sa : Option Addr) (sl sc : Nat) (xs : List Item) (hR : RItems W [.slice sa sl sc] xs) (hb : bulkL (fun (x : Item) => vbulk x.cells) xs ≤ 1048576) :
    Calls Try.prog 4 #[.slice sa sl sc] W fun e w' => e = .returned (.bool true) ∧ Below W.heap.size W w' := by
  obtain ⟨a, n, cap, hv, hn, hnc, hcb, hcm, hnone, hel⟩ := hR
  cases hv
  have hel' : Hid (∀ (j : Nat) (x : Item), xs[j]? = some x → ∃ b off, sa = some ⟨b, off, none⟩ ∧ b < W.heap.size ∧ x.Wf ∧ ∀ (i : Nat) (c : Value), x.cells[i]? = some c → W.cell? ⟨b, off + (j * 4 + i), none⟩ = some c) := Lib.hid fun j x hx => by
    obtain ⟨b, off, e1, e2, e3⟩ := hel (by have := (List.getElem?_eq_some_iff.1 hx).1; omega)
    obtain ⟨es, h1, h2, rfl, h4⟩ := e3 j x hx
    exact ⟨b, off, e1, e2, h4, h2⟩
  have hwf : ∀ x ∈ xs, x.Wf := fun x hx => by
    obtain ⟨j, hj⟩ := List.mem_iff_getElem?.1 hx
    obtain ⟨_, _, _, _, h, _⟩ := hel'.out j x hj
    exact h
  have hlen := encAll_len hwf
  unfold bulkL at hb
  have HLEN : Hid ((encAll xs).length ≤ 3145728) := Lib.hid (by omega)
  have hsl : sl ≤ 140737488355328 := by omega
  clear hel hb hlen hcb hcm hnone hwf
  go_enter Try.func4, Try.ntmps4
  go_wp2_with fail
  refine (wireSpeaks_any W).mono ?_
  rintro e w1 ⟨rfl, hbl⟩
  have HB := Lib.hid hbl
  clear hbl
  go_wp2_with fail
  have HN1 := Lib.hid ((PackAt.new w1).alloc (.cells #[.slice none 0 0] 25))
  have HN2 := Lib.hid (PackAt.new (w1.alloc (.cells #[.slice none 0 0] 25)))
  rw [show (w1.alloc (.cells #[.slice none 0 0] 25)).heap.size = w1.heap.size + 1 by simp] at HN2
  have hw2 : ((w1.alloc (.cells #[.slice none 0 0] 25)).alloc (.cells #[.slice none 0 0] 25)).heap.size = w1.heap.size + 2 := by simp
  have HW2 : Hid (Below W.heap.size W ((w1.alloc (.cells #[.slice none 0 0] 25)).alloc (.cells #[.slice none 0 0] 25))) := by
    have h1 := HB.out.size
    exact Lib.hid ((HB.out.alloc h1 (.cells #[.slice none 0 0] 25)).alloc (by simp; omega) (.cells #[.slice none 0 0] 25))
  have h1 := HB.out.size
  generalize (w1.alloc (.cells #[.slice none 0 0] 25)).alloc (.cells #[.slice none 0 0] 25) = w2 at HN1 HN2 hw2 HW2 ⊢
  go_loopg [6, 7] sl (fun g wantval ival wr => ∃ (k : Nat) (v : Value), ival = .int .i64 k ∧ k ≤ sl ∧ g = sl - k ∧ wantval = .string ⟨(encAll (xs.take k)).toArray⟩ ∧ Hid (PackAt wr w1.heap.size v (encAll (xs.take k))) ∧ Hid (PackR w2 w1.heap.size (.slice none 0 0) wr v))
  case atStart => exact ⟨0, _, rfl, Nat.zero_le _, rfl, rfl, HN1, Lib.hid (PackR.refl _ _ _)⟩
  case round =>
    obtain ⟨k, v, rfl, hk, hg, rfl, HP, HR⟩ := hrel
    subst hg
    by_cases h : k < sl
    · obtain ⟨x, hx⟩ : ∃ x, xs[k]? = some x := ⟨xs[k], List.getElem?_eq_getElem (by omega)⟩
      obtain ⟨b, off, rfl, hbW, hxw, hcell⟩ := hel'.out k x hx
      have HX := Lib.hid hx
      clear hx hel'
      have HXW := Lib.hid hxw
      clear hxw
      have hcw : ∀ (i : Nat) (c : Value), x.cells[i]? = some c → wr.cell? ⟨b, off + (k * 4 + i), none⟩ = some c := fun i c hc => by
        rw [HR.out.fr.cell (by show b < _; have := HW2.out.size; omega) (by intro e; rcases e with e | e; have : b = _ := e; omega; cases e), ← hcell i c hc]
        exact World.cell?_of_block (HW2.out.block b hbW)
      have d0 : wr.cell? ⟨b, off + k * 4, none⟩ = some (.int .i64 x.kind) := hcw 0 _ rfl
      have d1 : wr.cell? ⟨b, off + k * 4 + 1, none⟩ = some (.int .i64 x.n) := hcw 1 _ rfl
      have d2 : wr.cell? ⟨b, off + k * 4 + 2, none⟩ = some (.string x.s) := hcw 2 _ rfl
      have d3 : wr.cell? ⟨b, off + k * 4 + 3, none⟩ = some (.bool x.b) := hcw 3 _ rfl
      clear hcw hcell
      have hln : Hid ((encAll (xs.take (k + 1))).length ≤ 140737488355328) := Lib.hid (by have := encAll_take_len xs (k + 1); have := HLEN.out; omega)
      go_wp2_with fail
      refine (kind_any x.kind HXW.out.k1 HXW.out.k2 _).mono ?_
      rintro e w3 ⟨rfl, rfl⟩
      have HBx := Lib.hid (Blk.new wr x.cells 32)
      have HPx := Lib.hid (HP.out.alloc (.cells x.cells.toArray 32))
      have HRx := Lib.hid (HR.out.alloc (.cells x.cells.toArray 32))
      have hnS : ¬ PackS w1.heap.size v wr.heap.size := by
        rintro (e | e)
        · have := HP.out.blk.lt; omega
        · have := (HP.out.own.lt _ e).2; omega
      rw [show (Obj.cells x.cells.toArray 32) = Obj.cells #[Value.int IntKind.i64 x.kind, Value.int IntKind.i64 x.n, Value.string x.s, Value.bool x.b] 32 from rfl] at HBx HPx HRx
      generalize (wr.alloc (Obj.cells #[Value.int IntKind.i64 x.kind, Value.int IntKind.i64 x.n, Value.string x.s, Value.bool x.b] 32)) = wx at HBx HPx HRx ⊢
      have c1 : wx.cell? ⟨wr.heap.size, 1, none⟩ = some (.int .i64 x.n) := HBx.out.cell 1
      have c2 : wx.cell? ⟨wr.heap.size, 2, none⟩ = some (.string x.s) := HBx.out.cell 2
      have c3 : wx.cell? ⟨wr.heap.size, 3, none⟩ = some (.bool x.b) := HBx.out.cell 3
      clear d0 d1 d2 d3 HP HR
      have hkk : x.kd = 0 ∨ x.kd = 1 ∨ x.kd = 2 := by have := x.kd_lt; omega
      have hl0 : (encAll (List.take k xs)).length ≤ 3145728 := by have := encAll_take_len xs k; have := HLEN.out; omega
      have hl1 : (Wire.enc x.n).length ≤ 10 := Wire.uv_len10 (Wire.zz_lt HXW.out.n1 HXW.out.n2)
      have hl2 : (Wire.enc x.s.size).length ≤ 10 := Wire.uv_len10 (Wire.zz_lt (by omega) (by have := HXW.out.s1; omega))
      have hl3 : x.s.size ≤ 140737488351232 := HXW.out.s1
      rcases hkk with hkd | hkd | hkd
      · have hkz : (x.kind % 3).toNat = 0 := hkd
        rw [hkz]
        have hEnc : encAll (xs.take k) ++ Wire.enc x.n = encAll (xs.take (k + 1)) := by rw [encAll_take HX.out]; congr 1; unfold Item.enc; rw [hkd]; simp
        clear hkz hkd
        go_wp2_with fail
        refine (pint_any w1.heap.size v _ x.n HXW.out.n1 HXW.out.n2 wx HPx.out (by rw [hEnc]; exact hln.out)).mono ?_
        rintro e w4 ⟨rfl, v4, hP4, hR4⟩
        have HB4 := Lib.hid (HBx.out.fr hR4.fr hnS)
        have HR4 := Lib.hid (HRx.out.trans hR4)
        have HP4 := Lib.hid (hEnc ▸ hP4 : PackAt w4 w1.heap.size v4 (encAll (xs.take (k + 1))))
        have d1 : w4.cell? ⟨wr.heap.size, 1, none⟩ = some (.int .i64 x.n) := HB4.out.cell 1
        clear hP4 hR4
        go_wp2_with fail
        refine (pint_nil x.n _).mono ?_
        rintro e w5 ⟨rfl, rfl⟩
        go_wp2_with fail
        refine (refInt_any x.n HXW.out.n1 HXW.out.n2 w4).mono ?_
        rintro e w5 ⟨rfl, hb5⟩
        have HP5 := Lib.hid (HP4.out.fr (Fr.of_below (S := fun k => w4.heap.size ≤ k) hb5 fun k e _ => e) (by have := HP4.out.blk.lt; omega) (fun k hk => by have := (HP4.out.own.lt k hk).2; omega))
        have HR5 := Lib.hid (HR4.out.below2 hb5)
        clear hb5
        have hwant : (⟨(encAll (List.take k xs)).toArray⟩ : ByteArray) ++ ⟨(Wire.enc x.n).toArray⟩ = ⟨(encAll (List.take (k + 1) xs)).toArray⟩ := by
          rw [← hEnc]; exact str_app _ _
        go_wp2_with fail
        refine (pbytes_any w1.heap.size v4 _ w5 HP5.out).mono ?_
        rintro e w6 ⟨rfl, rfl⟩
        go_wp2_with fail
        go_roundg (sl - (k + 1))
        case measure => omega
        case rel => exact ⟨k + 1, v4, val_int (by omega), by omega, rfl, rfl, HP5, HR5⟩
      · have hkz : (x.kind % 3).toNat = 1 := hkd
        rw [hkz]
        have hEnc : encAll (xs.take k) ++ (Wire.enc x.s.size ++ x.s.data.toList) = encAll (xs.take (k + 1)) := by rw [encAll_take HX.out]; congr 1; unfold Item.enc; rw [hkd]; simp
        clear hkz hkd
        go_wp2_with fail
        refine (ptext_any w1.heap.size v _ x.s wx HPx.out (by rw [hEnc]; exact hln.out)).mono ?_
        rintro e w4 ⟨rfl, v4, hP4, hR4⟩
        have HB4 := Lib.hid (HBx.out.fr hR4.fr hnS)
        have HR4 := Lib.hid (HRx.out.trans hR4)
        have HP4 := Lib.hid (hEnc ▸ hP4 : PackAt w4 w1.heap.size v4 (encAll (xs.take (k + 1))))
        have d2 : w4.cell? ⟨wr.heap.size, 2, none⟩ = some (.string x.s) := HB4.out.cell 2
        clear hP4 hR4
        go_wp2_with fail
        refine (ptext_nil x.s _).mono ?_
        rintro e w5 ⟨rfl, rfl⟩
        go_wp2_with fail
        refine (refText_any x.s HXW.out.s1 w4).mono ?_
        rintro e w5 ⟨rfl, hb5⟩
        have HP5 := Lib.hid (HP4.out.fr (Fr.of_below (S := fun k => w4.heap.size ≤ k) hb5 fun k e _ => e) (by have := HP4.out.blk.lt; omega) (fun k hk => by have := (HP4.out.own.lt k hk).2; omega))
        have HR5 := Lib.hid (HR4.out.below2 hb5)
        clear hb5
        have hwant : (⟨(encAll (List.take k xs)).toArray⟩ : ByteArray) ++ ⟨(Wire.enc x.s.size ++ x.s.data.toList).toArray⟩ = ⟨(encAll (List.take (k + 1) xs)).toArray⟩ := by
          rw [← hEnc]; exact str_app _ _
        go_wp2_with fail
        refine (pbytes_any w1.heap.size v4 _ w5 HP5.out).mono ?_
        rintro e w6 ⟨rfl, rfl⟩
        go_wp2_with fail
        go_roundg (sl - (k + 1))
        case measure => omega
        case rel => exact ⟨k + 1, v4, val_int (by omega), by omega, rfl, rfl, HP5, HR5⟩
      · have hkz : (x.kind % 3).toNat = 2 := hkd
        rw [hkz]
        obtain ⟨bb, hbb⟩ : ∃ bb : UInt8, (if x.b then 1 else 0) = bb := ⟨_, rfl⟩
        have hEnc : encAll (xs.take k) ++ [if x.b then 1 else 0] = encAll (xs.take (k + 1)) := by rw [encAll_take HX.out]; congr 1; unfold Item.enc; rw [hkd]; simp
        clear hkz hkd
        go_wp2_with fail
        refine (pbool_any w1.heap.size v _ x.b wx HPx.out (by have := hln.out; rw [← hEnc] at this; simpa using this)).mono ?_
        rintro e w4 ⟨rfl, v4, hP4, hR4⟩
        have HB4 := Lib.hid (HBx.out.fr hR4.fr hnS)
        have HR4 := Lib.hid (HRx.out.trans hR4)
        have HP4 := Lib.hid (hEnc ▸ hP4 : PackAt w4 w1.heap.size v4 (encAll (xs.take (k + 1))))
        have d3 : w4.cell? ⟨wr.heap.size, 3, none⟩ = some (.bool x.b) := HB4.out.cell 3
        clear hP4 hR4
        go_wp2_with fail
        refine (pbool_nil x.b _).mono ?_
        rintro e w5 ⟨rfl, rfl⟩
        go_wp2_with fail
        refine (refBool_any x.b w4).mono ?_
        rintro e w5 ⟨rfl, rfl⟩
        rw [hbb] at hEnc ⊢
        clear hbb
        have HP5 := HP4
        have HR5 := HR4
        have hwant : (⟨(encAll (List.take k xs)).toArray⟩ : ByteArray) ++ ⟨#[bb]⟩ = ⟨(encAll (List.take (k + 1) xs)).toArray⟩ := by
          rw [← hEnc]; exact str_app _ [bb]
        go_wp2_with fail
        refine (pbytes_any w1.heap.size v4 _ w4 HP5.out).mono ?_
        rintro e w6 ⟨rfl, rfl⟩
        go_wp2_with fail
        go_roundg (sl - (k + 1))
        case measure => omega
        case rel => exact ⟨k + 1, v4, val_int (by omega), by omega, rfl, rfl, HP5, HR5⟩
    · obtain rfl : k = sl := by omega
      have e : xs.take k = xs := List.take_of_length_le (by omega)
      have HQ := Lib.hid (HN2.out.fr HR.out.fr (by rintro (e | e); omega; cases e) (fun k e => by cases e))
      go_wp2_with fail
      refine (pbytes_any (w1.heap.size + 1) _ _ wr HQ.out).mono ?_
      rintro e w6 ⟨rfl, rfl⟩
      go_wp2_with fail
      refine (pbytes_nil _).mono ?_
      rintro e w6 ⟨rfl, rfl⟩
      go_wp2_with fail
      go_ret
      exact ⟨rfl, HW2.out.trans (HR.out.below h1 (fun k e => by cases e) (by omega))⟩
end Go.Proofs.Ytbpphflegjebaaa
