/- leases: the reference's Grant. -/
import Derived.Test.YtngpmlolpigeoaaLeaseRef
namespace Go.Proofs.Ytngpmlolpigeoaa
open Go.RowKit Go.Maps
set_option linter.unusedVariables false
set_option linter.unusedSimpArgs false
def lrBefore (p : ByteArray) (e : LR) : Bool := Op.bytesLess e.1.toList p.toList
def lrIns (p : ByteArray) (c h : Int) (d : List LR) : List LR := d.takeWhile (lrBefore p) ++ (p, c, h) :: d.dropWhile (lrBefore p)
theorem tw_stop {α : Type} (f : α → Bool) : ∀ (d : List α) (k : Nat), (∀ j x, j < k → d[j]? = some x → f x = true) → (∀ x, d[k]? = some x → f x = false) → k ≤ d.length → d.takeWhile f = d.take k ∧ d.dropWhile f = d.drop k
  | [], k, _, _, hk => by simp at hk; subst hk; exact ⟨rfl, rfl⟩
  | a :: d, 0, _, h2, _ => by
    have := h2 a rfl
    simp [this]
  | a :: d, k + 1, h1, h2, hk => by
    have ha := h1 0 a (by omega) rfl
    have := tw_stop f d k (fun j x hj hx => h1 (j + 1) x (by omega) hx) (fun x hx => h2 x hx) (by simpa using hk)
    simp [ha, this.1, this.2]
/-- the first k, the new one, and those up to i -/
def lrMid (d : List LR) (k : Nat) (e : LR) (i : Nat) : List LR := d.take k ++ e :: (d.drop k).take (i - k)
theorem lrMid_start (d : List LR) (k : Nat) (e : LR) : lrMid d k e k = d.take k ++ [e] := by unfold lrMid; simp
theorem lrMid_next (d : List LR) (k : Nat) (e : LR) (i : Nat) (y : LR) (hk : k ≤ i) (hy : d[i]? = some y) : lrMid d k e (i + 1) = lrMid d k e i ++ [y] := by
  unfold lrMid
  rw [show i + 1 - k = (i - k) + 1 by omega, List.take_add_one, List.getElem?_drop, show k + (i - k) = i by omega, hy]
  simp
theorem lrMid_end (d : List LR) (k : Nat) (e : LR) (i : Nat) (h : d.length ≤ i) : lrMid d k e i = d.take k ++ e :: d.drop k := by
  unfold lrMid
  congr 2
  exact List.take_of_length_le (by rw [List.length_drop]; omega)
theorem lrMid_len (d : List LR) (k : Nat) (e : LR) (i : Nat) : (lrMid d k e i).length ≤ d.length + 1 := by
  unfold lrMid
  simp only [List.length_append, List.length_cons, List.length_take, List.length_drop]
  omega
set_option maxRecDepth 20000 in
set_option maxHeartbeats 8000000 in
theorem rgrant_c (B rt : Nat) (v : Value) (len : Int) (l : List LR) (p : ByteArray) (c now : Int) (w : World) (h : RefAt w B rt v len l) (hn : l.length < 4000000000000) :
    Calls Try.prog 13 #[.pointer (some ⟨rt, 0, none⟩), .string p, .int .i64 c, .int .i64 now] w fun e w' => e = .returned (.tuple #[]) ∧ RefTo w B rt v len (lrIns p c (clamp now 0) (l.filter (lrNot p))) w' := by
  have HD := Lib.hid (rdrop_c B rt v len l p w h hn)
  have hdl : (l.filter (lrNot p)).length < 4000000000000 := Nat.lt_of_le_of_lt (List.length_filter_le _ _) hn
  have HN := Lib.hid hdl
  generalize l.filter (lrNot p) = d at HD HN ⊢
  have hcl := rclamp_c now 0 (by decide)
  generalize hnw : clamp now 0 = nw at hcl ⊢
  have HCL := Lib.hid hcl
  clear h hn hdl hcl hnw
  go_enter Try.func13, Try.ntmps13
  go_wp2_with fail
  refine HD.out.mono ?_
  rintro _ w1 ⟨rfl, v1, h1, r1⟩
  have H := Lib.hid h1
  have HR := Lib.hid r1
  clear h1 r1 HD
  go_wp2_with fail
  go_loopg [8, 9] d.length (fun g v8 v9 wr => ∃ k : Nat, v9 = .int .i64 (k : Int) ∧ k + g = d.length ∧ Hid (∀ j x, j < k → d[j]? = some x → lrBefore p x = true) ∧ Hid (wr.ownsRow w1.heap.size 45 3 v8 (d.take k).length ((d.take k).map lrC).flatten) ∧ Hid (Fr w1 wr (fun _ => False)))
  case atStart => exact ⟨0, rfl, by omega, Lib.hid (fun j x hj => by omega), Lib.hid (World.ownsRow_nil _ _ _ _), Lib.hid (Fr.refl _ _)⟩
  case round =>
    obtain ⟨k, rfl, hk, HBF, HO, HF⟩ := hrel
    have HK := Lib.hid hk
    have HA := Lib.hid (H.out.frNone HF.out)
    have HOUT : Hid (∀ wr : World, (d[k]? = none ∨ ∃ x, d[k]? = some x ∧ lrBefore p x = false) → d.takeWhile (lrBefore p) = d.take k ∧ d.dropWhile (lrBefore p) = d.drop k) := Lib.hid fun _ hq => tw_stop (lrBefore p) d k HBF.out (fun x hx => by
      rcases hq with e | ⟨y, e, hy⟩
      · rw [e] at hx; cases hx
      · rw [e] at hx; cases hx; exact hy) (by omega)
    by_cases hlt : k < d.length
    · have t1 : decide ((k : Int) < (d.length : Int)) = true := decide_eq_true (by omega)
      have t1n : decide (k < d.length) = true := decide_eq_true hlt
      have HLT := Lib.hid hlt
      obtain ⟨x, hx⟩ : ∃ x, d[k]? = some x := ⟨d[k], List.getElem?_eq_getElem _⟩
      have HX := Lib.hid hx
      obtain ⟨g, cap, rfl, _, _, c0, c1, c2, _⟩ := HA.out.at hx
      have z1 : wr.cell? ⟨rt, 1, none⟩ = some (.slice (some ⟨g, 0, none⟩) d.length cap) := HA.out.blk.cell 1
      have ka : ((k : Int)).toNat = k := by omega
      have kp : (0 : Int) ≤ (k : Int) := by omega
      have kz : (k : Int) < (d.length : Int) := by omega
      have hbq : Op.bytesLess x.1.toList p.toList = lrBefore p x := rfl
      cases hq : lrBefore p x with
      | true =>
        rw [hq] at hbq
        have HTK : Hid (d.take (k + 1) = d.take k ++ [x]) := Lib.hid (by rw [List.take_add_one, hx]; rfl)
        have HBF2 : Hid (∀ j y, j < k + 1 → d[j]? = some y → lrBefore p y = true) := Lib.hid fun j y hj hy => by
          by_cases e : j = k
          · subst e; rw [hx] at hy; cases hy; exact hq
          · exact HBF.out j y (by omega) hy
        have HML : Hid ((d.take k).length < 4000000000000) := Lib.hid (by rw [List.length_take]; have := HN.out; omega)
        have kw : k + 1 < 4000000000001 := by have := HN.out; omega
        generalize d.take k = out at HO HML HTK HOUT
        clear hx hlt hk hq HOUT
        go_wp2_with (at_builtin; refine wpList_app rfl _ _ 35 rfl w1.heap.size 45 _ 3 32 Try.underlying35 lr_info rfl (by decide) _ out.length _ rfl HO.out [.string x.1, .int .i64 x.2.1, .int .i64 x.2.2] _ 1 1 rfl rfl rfl (by have := HML.out; unfold maxLen; omega) (by have := HML.out; omega) HF.out.size ?_; intro v' w7 hO hG hN2)
        have hf7 : Fr wr w7 (fun j => w1.heap.size ≤ j) := Fr.of_grown hG.out fun j e => (HO.out.lt j e).1
        have HF7 : Hid (Fr w1 w7 (fun _ => False)) := Lib.hid (HF.out.trans hf7 fun y hy e => by omega)
        clear kw hf7
        go_roundg (d.length - (k + 1))
        case measure => have := HK.out; have := HLT.out; omega
        case rel => exact ⟨k + 1, by first | rfl | go_num, by have := HK.out; have := HLT.out; omega, HBF2, by rw [HTK.out]; exact Lib.hid (lrs_snoc hO.out), HF7⟩
      | false =>
        rw [hq] at hbq
        have HTW := Lib.hid (HOUT.out wr (.inr ⟨x, hx, hq⟩))
        clear hq hx hlt hk HOUT
        go_upto_region 6 with (fail)
        clear c0 c1 c2 z1 ka kp kz hbq t1 t1n HX HLT
        obtain ⟨pre, hpre⟩ : ∃ pre, pre = d.take k := ⟨_, rfl⟩
        rw [← hpre] at HO
        have HPRE := Lib.hid hpre
        obtain ⟨A8, c8, rfl⟩ := own_slice HO.out
        have HKD : Hid (k ≤ d.length) := Lib.hid (by have := HK.out; omega)
        have HTL : Hid (pre.length ≤ d.length) := Lib.hid (by rw [hpre, List.length_take]; omega)
        clear hpre
        go_wp2_with fail
        refine (HCL.out _).mono ?_
        rintro _ _ ⟨rfl, rfl⟩
        go_wp2_with (at_builtin; refine wpList_app rfl _ _ 35 rfl w1.heap.size 45 _ 3 32 Try.underlying35 lr_info rfl (by decide) _ pre.length _ rfl HO.out [.string p, .int .i64 c, .int .i64 nw] _ 1 1 rfl rfl rfl (by have := HTL.out; have := HN.out; unfold maxLen; omega) (by have := HTL.out; have := HN.out; omega) HF.out.size ?_; intro v' w7 hO hG hN2)
        have hf7 : Fr wr w7 (fun j => w1.heap.size ≤ j) := Fr.of_grown hG.out fun j e => (HO.out.lt j e).1
        have HF7 : Hid (Fr w1 w7 (fun _ => False)) := Lib.hid (HF.out.trans hf7 fun y hy e => by omega)
        have HO7 : Hid (w7.ownsRow w1.heap.size 45 3 v' (lrMid d k (p, c, nw) k).length ((lrMid d k (p, c, nw) k).map lrC).flatten) := Lib.hid (by
          have := lrs_snoc (x := (p, c, nw)) hO.out
          rw [lrMid_start, ← HPRE.out]
          exact this)
        clear hf7 hO hG hN2 HO HA HF
        go_loopg [8, 9] (d.length - k) (fun g v8 v9 wt => ∃ i : Nat, v9 = .int .i64 (i : Int) ∧ k ≤ i ∧ i + g = d.length ∧ Hid (wt.ownsRow w1.heap.size 45 3 v8 (lrMid d k (p, c, nw) i).length ((lrMid d k (p, c, nw) i).map lrC).flatten) ∧ Hid (Fr w1 wt (fun _ => False)))
        case atStart => exact ⟨k, rfl, Nat.le_refl _, by have := HKD.out; omega, HO7, HF7⟩
        case round =>
          obtain ⟨i, rfl, hki, hi, HO2, HF2⟩ := hrel
          have HI := Lib.hid (And.intro hki hi)
          have HA2 := Lib.hid (H.out.frNone HF2.out)
          clear HO7 HF7
          by_cases hlt : i < d.length
          · have t1 : decide ((i : Int) < (d.length : Int)) = true := decide_eq_true (by omega)
            have t1n : decide (i < d.length) = true := decide_eq_true hlt
            have HLT2 := Lib.hid hlt
            obtain ⟨y, hy⟩ : ∃ y, d[i]? = some y := ⟨d[i], List.getElem?_eq_getElem _⟩
            have hat := HA2.out.at hy
            obtain ⟨g2, cap2, hv2, _, _, e0, e1, e2, _⟩ := hat
            have z2 : wr.cell? ⟨rt, 1, none⟩ = some (.slice (some ⟨g2, 0, none⟩) d.length cap2) := by
              rw [← hv2]; exact HA2.out.blk.cell 1
            have ia : ((i : Int)).toNat = i := by omega
            have ip : (0 : Int) ≤ (i : Int) := by omega
            have iz : (i : Int) < (d.length : Int) := by omega
            have HMS := Lib.hid (lrMid_next d k (p, c, nw) i y hki hy)
            have HML2 : Hid ((lrMid d k (p, c, nw) i).length < 4000000000002) := Lib.hid (Nat.lt_of_le_of_lt (lrMid_len d k (p, c, nw) i) (by have := HN.out; omega))
            have kw : i + 1 < 4000000000001 := by have := HN.out; omega
            generalize lrMid d k (p, c, nw) i = out2 at HO2 HML2 HMS ⊢
            clear hlt hki hi hy hv2
            go_wp2_with (at_builtin; refine wpList_app rfl _ _ 35 rfl w1.heap.size 45 _ 3 32 Try.underlying35 lr_info rfl (by decide) _ out2.length _ rfl HO2.out [.string y.1, .int .i64 y.2.1, .int .i64 y.2.2] _ 1 1 rfl rfl rfl (by have := HML2.out; unfold maxLen; omega) (by have := HML2.out; omega) HF2.out.size ?_; intro v9 w9 hO hG hN2)
            have hf9 : Fr _ w9 (fun j => w1.heap.size ≤ j) := Fr.of_grown hG.out fun j e => (HO2.out.lt j e).1
            have HF9 : Hid (Fr w1 w9 (fun _ => False)) := Lib.hid (HF2.out.trans hf9 fun y hy e => by omega)
            clear kw hf9
            go_roundg (d.length - (i + 1))
            case measure => have := HI.out; have := HLT2.out; omega
            case rel => exact ⟨i + 1, by first | rfl | go_num, by have := HI.out; omega, by have := HI.out; have := HLT2.out; omega, by rw [HMS.out]; exact Lib.hid (lrs_snoc hO.out), HF9⟩
          · have t1 : decide ((i : Int) < (d.length : Int)) = false := decide_eq_false (by omega)
            have t1n : decide (i < d.length) = false := decide_eq_false hlt
            obtain ⟨A5, cc5, hv5⟩ := H.out.row.slice
            rw [List.length_map] at hv5
            have z2 : wr.cell? ⟨rt, 1, none⟩ = some (.slice A5 d.length cc5) := by rw [← hv5]; exact HA2.out.blk.cell 1
            have f2 : wr.frozen? ⟨rt, 1, none⟩ = false := HA2.out.blk.frozen 1
            have hmid : lrMid d k (p, c, nw) i = lrIns p c nw d := by
              rw [lrMid_end d k _ i (by omega)]
              unfold lrIns
              rw [HTW.out.1, HTW.out.2]
            rw [hmid] at HO2
            obtain ⟨A9, c9, rfl⟩ := own_slice HO2.out
            obtain ⟨q1, q2⟩ := H.out.setL HF2.out HO2.out
            have HP := Lib.hid (show RefTo w B rt v len (lrIns p c nw d) _ from ⟨_, q1, HR.out.trans q2⟩)
            clear q1 q2 hlt hki hi hv5 hmid
            go_wp2_with fail
            go_end0
            exact ⟨rfl, HP.out⟩
    · have t1 : decide ((k : Int) < (d.length : Int)) = false := decide_eq_false (by omega)
      have t1n : decide (k < d.length) = false := decide_eq_false hlt
      have HTW := Lib.hid (HOUT.out wr (.inl (List.getElem?_eq_none (by omega))))
      obtain ⟨A4, cc4, hv4⟩ := H.out.row.slice
      rw [List.length_map] at hv4
      have z1 : wr.cell? ⟨rt, 1, none⟩ = some (.slice A4 d.length cc4) := by rw [← hv4]; exact HA.out.blk.cell 1
      clear hlt hk HOUT hv4
      go_upto_region 6 with (fail)
      clear z1 t1 t1n
      obtain ⟨pre, hpre⟩ : ∃ pre, pre = d.take k := ⟨_, rfl⟩
      rw [← hpre] at HO
      have HPRE := Lib.hid hpre
      obtain ⟨A8, c8, rfl⟩ := own_slice HO.out
      have HKD : Hid (k ≤ d.length) := Lib.hid (by have := HK.out; omega)
      have HTL : Hid (pre.length ≤ d.length) := Lib.hid (by rw [hpre, List.length_take]; omega)
      clear hpre
      go_wp2_with fail
      refine (HCL.out _).mono ?_
      rintro _ _ ⟨rfl, rfl⟩
      go_wp2_with (at_builtin; refine wpList_app rfl _ _ 35 rfl w1.heap.size 45 _ 3 32 Try.underlying35 lr_info rfl (by decide) _ pre.length _ rfl HO.out [.string p, .int .i64 c, .int .i64 nw] _ 1 1 rfl rfl rfl (by have := HTL.out; have := HN.out; unfold maxLen; omega) (by have := HTL.out; have := HN.out; omega) HF.out.size ?_; intro v' w7 hO hG hN2)
      have hf7 : Fr wr w7 (fun j => w1.heap.size ≤ j) := Fr.of_grown hG.out fun j e => (HO.out.lt j e).1
      have HF7 : Hid (Fr w1 w7 (fun _ => False)) := Lib.hid (HF.out.trans hf7 fun y hy e => by omega)
      have HO7 : Hid (w7.ownsRow w1.heap.size 45 3 v' (lrMid d k (p, c, nw) k).length ((lrMid d k (p, c, nw) k).map lrC).flatten) := Lib.hid (by
        have := lrs_snoc (x := (p, c, nw)) hO.out
        rw [lrMid_start, ← HPRE.out]
        exact this)
      clear hf7 hO hG hN2 HO HA HF
      go_loopg [8, 9] (d.length - k) (fun g v8 v9 wt => ∃ i : Nat, v9 = .int .i64 (i : Int) ∧ k ≤ i ∧ i + g = d.length ∧ Hid (wt.ownsRow w1.heap.size 45 3 v8 (lrMid d k (p, c, nw) i).length ((lrMid d k (p, c, nw) i).map lrC).flatten) ∧ Hid (Fr w1 wt (fun _ => False)))
      case atStart => exact ⟨k, rfl, Nat.le_refl _, by have := HKD.out; omega, HO7, HF7⟩
      case round =>
        obtain ⟨i, rfl, hki, hi, HO2, HF2⟩ := hrel
        have HI := Lib.hid (And.intro hki hi)
        have HA2 := Lib.hid (H.out.frNone HF2.out)
        clear HO7 HF7
        by_cases hlt : i < d.length
        · have t1 : decide ((i : Int) < (d.length : Int)) = true := decide_eq_true (by omega)
          have t1n : decide (i < d.length) = true := decide_eq_true hlt
          have HLT2 := Lib.hid hlt
          obtain ⟨y, hy⟩ : ∃ y, d[i]? = some y := ⟨d[i], List.getElem?_eq_getElem _⟩
          have hat := HA2.out.at hy
          obtain ⟨g2, cap2, hv2, _, _, e0, e1, e2, _⟩ := hat
          have z2 : wr.cell? ⟨rt, 1, none⟩ = some (.slice (some ⟨g2, 0, none⟩) d.length cap2) := by
            rw [← hv2]; exact HA2.out.blk.cell 1
          have ia : ((i : Int)).toNat = i := by omega
          have ip : (0 : Int) ≤ (i : Int) := by omega
          have iz : (i : Int) < (d.length : Int) := by omega
          have HMS := Lib.hid (lrMid_next d k (p, c, nw) i y hki hy)
          have HML2 : Hid ((lrMid d k (p, c, nw) i).length < 4000000000002) := Lib.hid (Nat.lt_of_le_of_lt (lrMid_len d k (p, c, nw) i) (by have := HN.out; omega))
          have kw : i + 1 < 4000000000001 := by have := HN.out; omega
          generalize lrMid d k (p, c, nw) i = out2 at HO2 HML2 HMS ⊢
          clear hlt hki hi hy hv2
          go_wp2_with (at_builtin; refine wpList_app rfl _ _ 35 rfl w1.heap.size 45 _ 3 32 Try.underlying35 lr_info rfl (by decide) _ out2.length _ rfl HO2.out [.string y.1, .int .i64 y.2.1, .int .i64 y.2.2] _ 1 1 rfl rfl rfl (by have := HML2.out; unfold maxLen; omega) (by have := HML2.out; omega) HF2.out.size ?_; intro v9 w9 hO hG hN2)
          have hf9 : Fr _ w9 (fun j => w1.heap.size ≤ j) := Fr.of_grown hG.out fun j e => (HO2.out.lt j e).1
          have HF9 : Hid (Fr w1 w9 (fun _ => False)) := Lib.hid (HF2.out.trans hf9 fun y hy e => by omega)
          clear kw hf9
          go_roundg (d.length - (i + 1))
          case measure => have := HI.out; have := HLT2.out; omega
          case rel => exact ⟨i + 1, by first | rfl | go_num, by have := HI.out; omega, by have := HI.out; have := HLT2.out; omega, by rw [HMS.out]; exact Lib.hid (lrs_snoc hO.out), HF9⟩
        · have t1 : decide ((i : Int) < (d.length : Int)) = false := decide_eq_false (by omega)
          have t1n : decide (i < d.length) = false := decide_eq_false hlt
          obtain ⟨A5, cc5, hv5⟩ := H.out.row.slice
          rw [List.length_map] at hv5
          have z2 : wr.cell? ⟨rt, 1, none⟩ = some (.slice A5 d.length cc5) := by rw [← hv5]; exact HA2.out.blk.cell 1
          have f2 : wr.frozen? ⟨rt, 1, none⟩ = false := HA2.out.blk.frozen 1
          have hmid : lrMid d k (p, c, nw) i = lrIns p c nw d := by
            rw [lrMid_end d k _ i (by omega)]
            unfold lrIns
            rw [HTW.out.1, HTW.out.2]
          rw [hmid] at HO2
          obtain ⟨A9, c9, rfl⟩ := own_slice HO2.out
          obtain ⟨q1, q2⟩ := H.out.setL HF2.out HO2.out
          have HP := Lib.hid (show RefTo w B rt v len (lrIns p c nw d) _ from ⟨_, q1, HR.out.trans q2⟩)
          clear q1 q2 hlt hki hi hv5 hmid
          go_wp2_with fail
          go_end0
          exact ⟨rfl, HP.out⟩
end Go.Proofs.Ytngpmlolpigeoaa
