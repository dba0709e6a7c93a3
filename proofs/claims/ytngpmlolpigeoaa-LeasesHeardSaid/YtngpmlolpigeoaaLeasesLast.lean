/- LeasesLast: the last word on a path counts: the walk. (Printed by XLeasesLast.py.) -/
import Derived.Test.YtngpmlolpigeoaaLeaseSpk
import Derived.Test.YtngpmlolpigeoaaMake
namespace Go.Proofs.Ytngpmlolpigeoaa
open Go.RowKit Go.Maps
set_option linter.unusedVariables false
set_option linter.unusedSimpArgs false
/-- a table of the law's own -/
structure My (W w : World) (t m : Nat) (L : List ByteArray) (T : Le.Tab) : Prop where
  at_ : TabAt w t m L T
  bt : W.heap.size ≤ t
  bm : W.heap.size ≤ m
  below : Below W.heap.size W w
theorem My.to {W w w' : World} {t m : Nat} {L L' : List ByteArray} {T T' : Le.Tab} (h : My W w t m L T) (k : TabTo w t m L' T' w') : My W w' t m L' T' :=
  ⟨k.1, h.bt, h.bm, h.below.trans (k.frame h.bm h.below.size)⟩
theorem My.fr {W w w' : World} {t m : Nat} {L : List ByteArray} {T : Le.Tab} (h : My W w t m L T) (k : Fr w w' (fun _ => False)) : My W w' t m L T :=
  ⟨h.at_.fr k (fun e => e) (fun e => e), h.bt, h.bm, h.below.trans (frNone_below k h.below.size)⟩
theorem My.new {W w w' : World} {len : Int} {e : Ending} (hb : Below W.heap.size W w) (h : LeNew w len e w') : ∃ t m, e = .returned (.pointer (some ⟨t, 0, none⟩)) ∧ My W w' t m [] ⟨clamp len 1, fun _ => none⟩ := by
  obtain ⟨t, m, rfl, hT, ht, hm, hb2⟩ := h
  exact ⟨t, m, rfl, hT, Nat.le_trans hb.size ht, Nat.le_trans hb.size hm, below_then hb hb.size hb2⟩
theorem opens_ints13 (w : World) : Opens Try.prog w 50 RInts (bulkL fun x => vbulk [.int .i64 x]) := opens_ints (e := 3) Try.underlying50 (by kernel_rfl) (by kernel_rfl) (by kernel_rfl) w
/-- the table behind k grants, each renewed -/
def lastT (p : ByteArray) (cs : List Int) : Nat → Le.Tab
  | 0 => ⟨10, fun _ => none⟩
  | k + 1 => ⟨10, fun x => if x = p then some (cs.getD k 0, clamp ((k : Int) + 1) 0) else none⟩
def lastL (p : ByteArray) : Nat → List ByteArray
  | 0 => []
  | _ + 1 => [p]
theorem lastL_ins (p : ByteArray) (k : Nat) : Le.ins p (lastL p k) = lastL p (k + 1) := by
  cases k with
  | zero => unfold Le.ins lastL; simp
  | succ k => unfold Le.ins lastL; simp
theorem lastT_put (p : ByteArray) (cs : List Int) (k : Nat) (c h : Int) : (lastT p cs k).put p c h = ⟨10, fun x => if x = p then some (c, h) else none⟩ := by
  cases k with
  | zero => rfl
  | succ k =>
    unfold lastT Le.Tab.put
    simp only
    congr 1
    funext x
    by_cases e : x = p <;> simp [e]
theorem lastT_next (p : ByteArray) (cs : List Int) (k : Nat) (c h : Int) (hc : cs[k]? = some c) : ((lastT p cs k).put p c h).renew c (clamp ((k : Int) + 1) 0) = lastT p cs (k + 1) := by
  rw [lastT_put]
  unfold Le.Tab.renew lastT Le.isMine
  simp only [List.getD, hc, Option.getD_some]
  congr 1
  funext x
  by_cases e : x = p <;> simp [e]
theorem lastL_len (p : ByteArray) (k : Nat) : (lastL p k).length < 8796093022208 := by cases k <;> simp [lastL]
theorem lastL_len2 (p : ByteArray) (k : Nat) : (lastL p k).length < maxLen := by cases k <;> simp [lastL, maxLen]
theorem last_due9 (p : ByteArray) (cs : List Int) (k : Nat) (hk : k + 1 < 1073741824) (x : ByteArray) : Le.isDue (lastT p cs (k + 1)) (clamp (((k : Int) + 1) + 9) 0) x = false := by
  unfold Le.isDue lastT
  by_cases e : x = p
  · simp only [e, if_true]
    exact decide_eq_false (by unfold clamp; omega)
  · simp [e]
theorem last_due10 (p : ByteArray) (cs : List Int) (k : Nat) (hk : k + 1 < 1073741824) : Le.isDue (lastT p cs (k + 1)) (clamp (((k : Int) + 1) + 10) 0) p = true := by
  unfold Le.isDue lastT
  simp only [if_true]
  exact decide_eq_true (by unfold clamp; omega)
theorem last_due10' (p : ByteArray) (cs : List Int) (k : Nat) (n : Int) (x : ByteArray) (h : Le.isDue (lastT p cs (k + 1)) n x = true) : x = p := by
  unfold Le.isDue lastT at h
  by_cases e : x = p
  · exact e
  · simp [e] at h
theorem last_drop (p : ByteArray) (cs : List Int) (k : Nat) (n : Int) (x : ByteArray) : Le.isDue ((lastT p cs k).drop p) n x = false := by
  unfold Le.isDue Le.Tab.drop
  cases k with
  | zero => by_cases e : x = p <;> simp [e, lastT]
  | succ k => by_cases e : x = p <;> simp [e, lastT]
theorem last_dropg (p : ByteArray) (cs : List Int) (k : Nat) : ((lastT p cs k).drop p).g p = none := by
  unfold Le.Tab.drop
  simp
set_option maxRecDepth 20000 in
set_option maxHeartbeats 4000000 in
theorem leasesLast_walk (W : World) (p : ByteArray) (w0 : p.size ≤ 140737488351232) (ba : Option Addr) (n bc : Nat) (cs : List Int) (hB : RInts W [.slice ba n bc] cs) (dr : Bool) :
    Calls Try.prog 6 #[.string p, .slice ba n bc, .bool dr] W fun e w' => e = .returned (.bool true) ∧ Below W.heap.size W w' := by
  obtain ⟨hn, hnc, hcb, hcm, hel⟩ := rsl_get hB
  have HEL := Lib.hid hel
  have HP : Hid (p.size ≤ maxLen) := Lib.hid (by unfold maxLen; omega)
  have hbn : n * 8 ≤ 140737488351232 := by omega
  have HBN := Lib.hid hbn
  have HNC : Hid (cs.length = n) := Lib.hid (by omega)
  clear hB hel hcb hcm w0 hn hnc
  go_enter Try.func6, Try.ntmps6
  go_wp2_with fail
  refine (speaks_any W).mono ?_
  rintro _ w1 ⟨rfl, hb⟩
  have HB := Lib.hid hb
  clear hb
  go_wp2_with fail
  refine (new_c 10 w1).mono ?_
  intro e w2 h2
  obtain ⟨t, m, rfl, hm2⟩ := My.new HB.out h2
  rw [show clamp 10 1 = 10 from by decide] at hm2
  have H2 : Hid (My W w2 t m (lastL p 0) (lastT p cs 0)) := Lib.hid hm2
  clear h2 hm2
  go_wp2_with fail
  go_loopg [8] n (fun g iv wr => ∃ k : Nat, iv = .int .i64 (k : Int) ∧ k + g = n ∧ Hid (My W wr t m (lastL p k) (lastT p cs k)))
  case atStart => exact ⟨0, rfl, by omega, H2⟩
  case round =>
    obtain ⟨k, rfl, hk, MM⟩ := hrel
    have HK := Lib.hid hk
    clear H2 HB
    by_cases hlt : k < n
    · have t1 : decide ((k : Int) < (n : Int)) = true := decide_eq_true (by omega)
      have t1n : decide (k < n) = true := decide_eq_true hlt
      obtain ⟨c, hc⟩ : ∃ c, cs[k]? = some c := ⟨cs[k]'(by rw [HNC.out]; exact hlt), List.getElem?_eq_getElem _⟩
      obtain ⟨b, off, rfl, hbW, hcw, hcell⟩ := HEL.out k c hc
      have dW : W.cell? ⟨b, off + k, none⟩ = some (.int .i64 c) := by
        have := hcell 0 (.int .i64 c) rfl
        rwa [Nat.mul_one, Nat.add_zero] at this
      have DW := Lib.hid (And.intro dW hbW)
      have d0 : World.cell? _ ⟨b, off + k, none⟩ = some (.int .i64 c) := (World.cell?_of_block (MM.out.below.block b hbW)).trans dW
      have ka : ((k : Int)).toNat = k := by omega
      have kp : (0 : Int) ≤ (k : Int) := by omega
      have kz : (k : Int) < (n : Int) := by omega
      have hgr := grant_c t m (lastL p k) (lastT p cs k) p HP.out c (k : Int) _ MM.out.at_ (lastL_len2 p k)
      rw [lastL_ins] at hgr
      have HGR := Lib.hid hgr
      have HNX := Lib.hid (lastT_next p cs k c (clamp (k : Int) 0) hc)
      clear hgr hcell hcw hbW dW hc
      go_wp2_with fail
      refine HGR.out.mono ?_
      rintro _ w5 ⟨rfl, h5⟩
      have M5 := Lib.hid (MM.out.to h5)
      have d5 : w5.cell? ⟨b, off + k, none⟩ = some (.int .i64 c) := (World.cell?_of_block (M5.out.below.block b DW.out.2)).trans DW.out.1
      clear h5 d0
      have kw : k + 1 < 35184372087808 := by have := HBN.out; have := HK.out; omega
      go_wp2_with fail
      refine (renew_c t m _ _ c _ w5 M5.out.at_ (lastL_len p (k + 1))).mono ?_
      rintro _ w6 ⟨rfl, h6⟩
      rw [HNX.out] at h6
      have M6 := Lib.hid (M5.out.to h6)
      clear h6 d5
      go_wp2_with fail
      clear kw
      go_roundg (n - (k + 1))
      case measure => have := HK.out; omega
      case rel => exact ⟨k + 1, by first | rfl | go_num, by have := HK.out; omega, M6⟩
    · have t1 : decide ((k : Int) < (n : Int)) = false := decide_eq_false (by omega)
      have t1n : decide (k < n) = false := decide_eq_false hlt
      obtain rfl : k = n := by omega
      clear HK hk hlt
      have HH := Lib.hid (holder_c t m _ _ p HP.out _ MM.out.at_)
      cases k with
      | zero =>
        have e1 : ((lastT p cs 0).g p).getD (0, 0) = (0, 0) := rfl
        have e2 : ((lastT p cs 0).g p).isSome = false := rfl
        rw [e1, e2] at HH
        go_wp2_with fail
        refine HH.out.mono ?_
        rintro _ wx ⟨rfl, hx⟩
        have MX := Lib.hid (MM.out.fr hx)
        clear hx HH MM e1 e2
        cases dr with
        | false =>
          go_wp2
          go_ret
          exact ⟨rfl, MX.out.below⟩
        | true =>
          go_wp2_with fail
          refine (drop_c t m _ _ p HP.out _ MX.out.at_).mono ?_
          rintro _ wy ⟨rfl, hy⟩
          have MY := Lib.hid (MX.out.to hy)
          have HH2 := Lib.hid (holder_c t m _ _ p HP.out _ MY.out.at_)
          rw [last_dropg] at HH2
          clear hy
          go_wp2_with fail
          refine HH2.out.mono ?_
          rintro _ wz ⟨rfl, hz⟩
          have MZ := Lib.hid (MY.out.fr hz)
          clear hz HH2
          go_wp2_with fail
          refine (due_c t m _ _ 1099511627776 wz MZ.out.at_ (lastL_len p _)).mono ?_
          intro e wv hv
          obtain ⟨A, cv, rfl, hf⟩ := hv.noneDue (last_drop p cs _ _)
          have MV := Lib.hid (MZ.out.fr hf)
          clear hv hf
          go_wp2
          go_ret
          exact ⟨rfl, MV.out.below⟩
      | succ k =>
        obtain ⟨c, hc⟩ : ∃ c, cs[k]? = some c := ⟨cs[k]'(by rw [HNC.out]; omega), List.getElem?_eq_getElem _⟩
        obtain ⟨b, off, rfl, hbW, hcw, hcell⟩ := HEL.out k c hc
        have dW : W.cell? ⟨b, off + k, none⟩ = some (.int .i64 c) := by
          have := hcell 0 (.int .i64 c) rfl
          rwa [Nat.mul_one, Nat.add_zero] at this
        have DW := Lib.hid (And.intro dW hbW)
        have e1 : ((lastT p cs (k + 1)).g p).getD (0, 0) = (c, clamp ((k : Int) + 1) 0) := by simp [lastT, List.getD, hc]
        have e2 : ((lastT p cs (k + 1)).g p).isSome = true := by simp [lastT]
        rw [e1, e2] at HH
        have DW2 := DW
        clear hcell hcw hbW dW hc e1 e2
        go_wp2_with fail
        refine HH.out.mono ?_
        rintro _ wx ⟨rfl, hx⟩
        have MX := Lib.hid (MM.out.fr hx)
        have d5 : wx.cell? ⟨b, off + k, none⟩ = some (.int .i64 c) := (World.cell?_of_block (MX.out.below.block b DW.out.2)).trans DW.out.1
        clear hx HH MM
        have ka : (((k : Int) + 1) - 1).toNat = k := by omega
        have ka2 : ((k : Int) + 1) - 1 = (k : Int) := by omega
        have ka3 : IntKind.i64.wrap (((k : Int) + 1) - 1) = (k : Int) := by rw [IntKind.wrap_i64]; have := HBN.out; omega
        have ka4 : wrap64 (((k : Int) + 1) - 1) = (k : Int) := by unfold wrap64; have := HBN.out; omega
        have kb : ((k : Int)).toNat = k := by omega
        have kp : (0 : Int) ≤ (k : Int) := by omega
        have kz : (k : Int) < ((k : Int) + 1) := by omega
        have kq : decide ((0 : Int) < (k : Int) + 1) = true := decide_eq_true (by omega)
        have kqn : decide (0 < k + 1) = true := decide_eq_true (by omega)
        have hcc : (c != c) = false := by simp
        by_cases h30 : k + 1 < 1073741824
        · have H30 := Lib.hid h30
          have u1 : decide (((k : Int) + 1) < 1073741824) = true := decide_eq_true (by omega)
          have u1n : decide (k + 1 < 1073741824) = true := decide_eq_true h30
          clear h30
          have k9 : IntKind.i64.wrap (((k : Int) + 1) + 9) = ((k : Int) + 1) + 9 := by rw [IntKind.wrap_i64]; have := H30.out; omega
          have k9w : wrap64 (((k : Int) + 1) + 9) = ((k : Int) + 1) + 9 := by unfold wrap64; have := H30.out; omega
          have k10 : IntKind.i64.wrap (((k : Int) + 1) + 10) = ((k : Int) + 1) + 10 := by rw [IntKind.wrap_i64]; have := H30.out; omega
          have k10w : wrap64 (((k : Int) + 1) + 10) = ((k : Int) + 1) + 10 := by unfold wrap64; have := H30.out; omega
          go_wp2_with fail
          refine (due_c t m _ _ _ wx MX.out.at_ (lastL_len p _)).mono ?_
          intro e wa ha
          obtain ⟨A9, c9, rfl, hf9⟩ := ha.noneDue (last_due9 p cs k H30.out)
          have MA := Lib.hid (MX.out.fr hf9)
          clear ha hf9 d5
          go_wp2_with fail
          refine (due_c t m _ _ _ wa MA.out.at_ (lastL_len p _)).mono ?_
          intro e wc hc
          obtain ⟨gc, cc, rfl, _, _, _, hf10⟩ := hc.oneDue p (last_due10 p cs k H30.out) (last_due10' p cs k _)
          have MC := Lib.hid (MA.out.fr hf10)
          clear hc hf10
          go_upto_region 15 with (fail)
          clear ka ka2 ka3 ka4 kb kp kz kq kqn hcc u1 u1n k9 k9w k10 k10w
          cases dr with
          | false =>
            go_wp2
            go_ret
            exact ⟨rfl, MC.out.below⟩
          | true =>
            go_wp2_with fail
            refine (drop_c t m _ _ p HP.out _ MC.out.at_).mono ?_
            rintro _ wy ⟨rfl, hy⟩
            have MY := Lib.hid (MC.out.to hy)
            have HH2 := Lib.hid (holder_c t m _ _ p HP.out _ MY.out.at_)
            rw [last_dropg] at HH2
            clear hy
            go_wp2_with fail
            refine HH2.out.mono ?_
            rintro _ wz ⟨rfl, hz⟩
            have MZ := Lib.hid (MY.out.fr hz)
            clear hz HH2
            go_wp2_with fail
            refine (due_c t m _ _ 1099511627776 wz MZ.out.at_ (lastL_len p _)).mono ?_
            intro e wv hv
            obtain ⟨A, cv, rfl, hf⟩ := hv.noneDue (last_drop p cs _ _)
            have MV := Lib.hid (MZ.out.fr hf)
            clear hv hf
            go_wp2
            go_ret
            exact ⟨rfl, MV.out.below⟩
        · have u1 : decide (((k : Int) + 1) < 1073741824) = false := decide_eq_false (by omega)
          have u1n : decide (k + 1 < 1073741824) = false := decide_eq_false h30
          clear h30
          go_upto_region 15 with (fail)
          clear ka ka2 ka3 ka4 kb kp kz kq kqn hcc u1 u1n d5
          cases dr with
          | false =>
            go_wp2
            go_ret
            exact ⟨rfl, MX.out.below⟩
          | true =>
            go_wp2_with fail
            refine (drop_c t m _ _ p HP.out _ MX.out.at_).mono ?_
            rintro _ wy ⟨rfl, hy⟩
            have MY := Lib.hid (MX.out.to hy)
            have HH2 := Lib.hid (holder_c t m _ _ p HP.out _ MY.out.at_)
            rw [last_dropg] at HH2
            clear hy
            go_wp2_with fail
            refine HH2.out.mono ?_
            rintro _ wz ⟨rfl, hz⟩
            have MZ := Lib.hid (MY.out.fr hz)
            clear hz HH2
            go_wp2_with fail
            refine (due_c t m _ _ 1099511627776 wz MZ.out.at_ (lastL_len p _)).mono ?_
            intro e wv hv
            obtain ⟨A, cv, rfl, hf⟩ := hv.noneDue (last_drop p cs _ _)
            have MV := Lib.hid (MZ.out.fr hf)
            clear hv hf
            go_wp2
            go_ret
            exact ⟨rfl, MV.out.below⟩
end Go.Proofs.Ytngpmlolpigeoaa
