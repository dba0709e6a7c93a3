/- leases: the reference's Renew and Due; the law's comparison of texts. -/
import Derived.Test.YtngpmlolpigeoaaLeaseRef2
namespace Go.Proofs.Ytngpmlolpigeoaa
open Go.RowKit Go.Maps
set_option linter.unusedVariables false
set_option linter.unusedSimpArgs false
def lrUpd (c h : Int) (e : LR) : LR := if e.2.1 = c then (e.1, e.2.1, h) else e
def lrMidU (l : List LR) (c h : Int) (k : Nat) : List LR := (l.take k).map (lrUpd c h) ++ l.drop k
theorem lrMidU_at (l : List LR) (c h : Int) (k : Nat) (x : LR) (hx : l[k]? = some x) : (lrMidU l c h k)[k]? = some x := by
  unfold lrMidU
  have hk := (List.getElem?_eq_some_iff.1 hx).1
  rw [List.getElem?_append_right (by rw [List.length_map, List.length_take]; omega), List.length_map, List.length_take, List.getElem?_drop]
  rw [show k + (k - min k l.length) = k by omega]
  exact hx
theorem lrMidU_next (l : List LR) (c h : Int) (k : Nat) (x : LR) (hx : l[k]? = some x) : lrMidU l c h (k + 1) = (lrMidU l c h k).set k (lrUpd c h x) := by
  unfold lrMidU
  have hk := (List.getElem?_eq_some_iff.1 hx).1
  rw [List.take_add_one, hx, List.map_append]
  have h1 : l.drop k = x :: l.drop (k + 1) := by
    rw [List.drop_eq_getElem_cons hk]
    congr 1
    rw [List.getElem?_eq_getElem hk] at hx
    exact Option.some.inj hx
  have hl : ((l.take k).map (lrUpd c h)).length = k := by rw [List.length_map, List.length_take]; omega
  rw [h1, List.set_append_right _ _ (by omega), hl, Nat.sub_self]
  simp
theorem lrMidU_len (l : List LR) (c h : Int) (k : Nat) : (lrMidU l c h k).length = l.length := by
  unfold lrMidU
  rw [List.length_append, List.length_map, List.length_take, List.length_drop]
  omega
theorem RefAt.setH {w : World} {B rt : Nat} {v : Value} {len : Int} {l : List LR} (h : RefAt w B rt v len l) {i : Nat} {x : LR} (hx : l[i]? = some x) {g cap : Nat} (hv : v = .slice (some ⟨g, 0, none⟩) l.length cap) (hh : Int) :
    RefAt (w.setCell ⟨g, i * 3 + 2, none⟩ (.int .i64 hh)) B rt v len (l.set i (x.1, x.2.1, hh)) ∧ RefR w rt v (w.setCell ⟨g, i * 3 + 2, none⟩ (.int .i64 hh)) v := by
  subst hv
  have hr : (l.map lrC)[i]? = some (lrC x) := by rw [List.getElem?_map, hx]; rfl
  have h2 := h.row.set hr (j := 2) (by decide) (.int .i64 hh)
  have hfr : Fr w (w.setCell ⟨g, i * 3 + 2, none⟩ (.int .i64 hh)) (fun k => k = rt ∨ (Value.slice (some ⟨g, 0, none⟩) l.length cap).ownBlock = some k) := by
    refine Fr.setCell (Fr.refl w _) ⟨g, i * 3 + 2, none⟩ _ ?_
    intro _; exact .inr rfl
  refine ⟨⟨h.blk.other _ _ (fun e => h.ne g rfl (Eq.symm e)), ?_, h.lo, h.ne⟩, ⟨fun q e => .inl e, hfr⟩⟩
  rw [List.map_set]
  exact h2
set_option maxRecDepth 20000 in
set_option maxHeartbeats 4000000 in
theorem rrenew_c (B rt : Nat) (v : Value) (len : Int) (l : List LR) (c now : Int) (w : World) (h : RefAt w B rt v len l) (hn : l.length < 4000000000000) :
    Calls Try.prog 14 #[.pointer (some ⟨rt, 0, none⟩), .int .i64 c, .int .i64 now] w fun e w' => e = .returned (.tuple #[]) ∧ RefTo w B rt v len (l.map (lrUpd c (clamp now 0))) w' := by
  have hcl := rclamp_c now 0 (by decide)
  generalize clamp now 0 = nw at hcl ⊢
  have HCL := Lib.hid hcl
  have H := Lib.hid h
  have HN := Lib.hid hn
  clear h hn hcl
  go_enter Try.func14, Try.ntmps14
  go_wp2_with fail
  go_loopg [6] l.length (fun g v6 wr => ∃ k : Nat, v6 = .int .i64 (k : Int) ∧ k + g = l.length ∧ Hid (RefAt wr B rt v len (lrMidU l c nw k)) ∧ Hid (RefR w rt v wr v))
  case atStart => exact ⟨0, rfl, by omega, Lib.hid H.out, Lib.hid ⟨fun _ e => .inl e, Fr.refl _ _⟩⟩
  case round =>
    obtain ⟨k, rfl, hk, HA, HR⟩ := hrel
    have HK := Lib.hid hk
    have HLL := Lib.hid (lrMidU_len l c nw k)
    by_cases hlt : k < l.length
    · have t1 : decide ((k : Int) < (l.length : Int)) = true := decide_eq_true (by omega)
      have t1n : decide (k < l.length) = true := decide_eq_true hlt
      have HLT := Lib.hid hlt
      obtain ⟨x, hx⟩ : ∃ x, l[k]? = some x := ⟨l[k], List.getElem?_eq_getElem _⟩
      have hxm := lrMidU_at l c nw k x hx
      obtain ⟨g, cap, hv, hgr, _, c0, c1, c2, f2⟩ := HA.out.at hxm
      have hst := HA.out.setH hxm hv nw
      rw [HLL.out] at hv
      subst hv
      have z1 : wr.cell? ⟨rt, 1, none⟩ = some (.slice (some ⟨g, 0, none⟩) l.length cap) := HA.out.blk.cell 1
      have ka : ((k : Int)).toNat = k := by omega
      have kp : (0 : Int) ≤ (k : Int) := by omega
      have kz : (k : Int) < (l.length : Int) := by omega
      have kw : k + 1 < 4000000000001 := by have := HN.out; omega
      have HNX := Lib.hid (lrMidU_next l c nw k x hx)
      by_cases hc : x.2.1 = c
      · have q1 : (x.2.1 == c) = true := by rw [hc]; exact beq_self_eq_true _
        have hup : lrUpd c nw x = (x.1, x.2.1, nw) := by unfold lrUpd; rw [if_pos hc]
        rw [hup] at HNX
        have HST := Lib.hid hst
        clear hc hup hst hx hxm hlt hk
        go_upto_region 4 with (fail)
        have d1 : wr.drew.cell? ⟨rt, 1, none⟩ = some (.slice (some ⟨g, 0, none⟩) l.length cap) := z1
        have d2 : wr.drew.cell? ⟨g, k * 3 + 2, none⟩ = some (.int .i64 x.2.2) := c2
        have fd : wr.drew.frozen? ⟨g, k * 3 + 2, none⟩ = false := f2
        have d3 : (wr.drew.setCell ⟨g, k * 3 + 2, none⟩ (.int .i64 nw)).cell? ⟨rt, 1, none⟩ = some (.slice (some ⟨g, 0, none⟩) l.length cap) := (World.cell?_setCell_other _ _ _ _ (by simp [hgr])).trans d1
        clear z1 c0 c1 c2 f2
        go_region_held3 (fun w' => w'.cell? ⟨rt, 1, none⟩ = some (.slice (some ⟨g, 0, none⟩) l.length cap))
          (first | exact d1 | exact d3)
          (first | (go_at_call 21; (with_reducible refine (HCL.out _).mono ?_); rintro _ _ ⟨rfl, rfl⟩))
        have HA2 : Hid (RefAt (wr.setCell ⟨g, k * 3 + 2, none⟩ (.int .i64 nw)).drew B rt (.slice (some ⟨g, 0, none⟩) l.length cap) len (lrMidU l c nw (k + 1))) := Lib.hid (by rw [HNX.out]; exact HST.out.1.frNone ((Fr.refl _ _).drewN 1))
        have HR2 : Hid (RefR w rt (.slice (some ⟨g, 0, none⟩) l.length cap) (wr.setCell ⟨g, k * 3 + 2, none⟩ (.int .i64 nw)).drew (.slice (some ⟨g, 0, none⟩) l.length cap)) := Lib.hid (HR.out.trans (HST.out.2.trans (RefR.of_fr ((Fr.refl _ _).drewN 1))))
        clear d1 d2 d3 fd HST HA HR
        generalize (wr.setCell ⟨g, k * 3 + 2, none⟩ (.int .i64 nw)).drew = w5 at HA2 HR2 ⊢
        go_wp2_with fail
        clear kw
        go_roundg (l.length - (k + 1))
        case measure => have := HK.out; have := HLT.out; omega
        case rel => exact ⟨k + 1, by first | rfl | go_num, by have := HK.out; have := HLT.out; omega, HA2, HR2⟩
      · have q1 : (x.2.1 == c) = false := beq_eq_false_iff_ne.2 hc
        have hup : lrUpd c nw x = x := by unfold lrUpd; rw [if_neg hc]
        have hsame : (lrMidU l c nw k).set k x = lrMidU l c nw k := by
          apply List.ext_getElem?
          intro j
          rw [List.getElem?_set]
          split
          · rename_i e; subst e; split
            · exact hxm.symm
            · rename_i h2; exact absurd (List.getElem?_eq_some_iff.1 hxm).1 h2
          · rfl
        rw [hup, hsame] at HNX
        clear hc hup hst hx hxm hlt hk hsame
        go_wp2_with fail
        clear kw
        go_roundg (l.length - (k + 1))
        case measure => have := HK.out; have := HLT.out; omega
        case rel => exact ⟨k + 1, by first | rfl | go_num, by have := HK.out; have := HLT.out; omega, by rw [HNX.out]; exact HA, HR⟩
    · have t1 : decide ((k : Int) < (l.length : Int)) = false := decide_eq_false (by omega)
      have t1n : decide (k < l.length) = false := decide_eq_false hlt
      have hfull : lrMidU l c nw k = l.map (lrUpd c nw) := by unfold lrMidU; rw [List.take_of_length_le (by omega), List.drop_eq_nil_of_le (by omega), List.append_nil]
      obtain ⟨A5, cc5, hv5⟩ := H.out.row.slice
      rw [List.length_map] at hv5
      have z2 : wr.cell? ⟨rt, 1, none⟩ = some (.slice A5 l.length cc5) := by rw [← hv5]; exact HA.out.blk.cell 1
      have HP := Lib.hid (show RefTo w B rt v len (l.map (lrUpd c nw)) wr from ⟨v, hfull ▸ HA.out, HR.out⟩)
      clear hfull hlt hk hv5
      go_wp2_with fail
      go_end0
      exact ⟨rfl, HP.out⟩
def lrDue (nw ln : Int) (e : LR) : Bool := decide (e.2.2 ≤ nw - ln)
def RDuePost (w : World) (l : List LR) (nw ln : Int) (e : Ending) (w' : World) : Prop := ∃ v, e = .returned v ∧ w'.ownsRow w.heap.size 9 1 v ((l.filter (lrDue nw ln)).map (·.1)).length (strs ((l.filter (lrDue nw ln)).map (·.1))) ∧ Fr w w' (fun _ => False)
set_option maxRecDepth 20000 in
set_option maxHeartbeats 4000000 in
theorem rdue_c (B rt : Nat) (v : Value) (len : Int) (l : List LR) (now : Int) (w : World) (h : RefAt w B rt v len l) (hn : l.length < 4000000000000) :
    Calls Try.prog 18 #[.pointer (some ⟨rt, 0, none⟩), .int .i64 now] w (RDuePost w l (clamp now 0) (clamp len 1)) := by
  have hcl := rclamp_c now 0 (by decide)
  have hcl2 := rclamp_c len 1 (by decide)
  have hb0 : 0 ≤ clamp now 0 := clamp_lo (by decide)
  have hb1 := clamp_hi now 0
  have hb2 : 1 ≤ clamp len 1 := clamp_lo (by decide)
  have hb3 := clamp_hi len 1
  generalize clamp now 0 = nw at hcl hb0 hb1 ⊢
  generalize clamp len 1 = ln at hcl2 hb2 hb3 ⊢
  have HCL := Lib.hid hcl
  have HCL2 := Lib.hid hcl2
  have w1 : wrap64 (nw - ln) = nw - ln := by unfold wrap64; omega
  have w2 : IntKind.i64.wrap (nw - ln) = nw - ln := by rw [IntKind.wrap_i64]; omega
  have H := Lib.hid h
  have HN := Lib.hid hn
  clear h hn hcl hcl2 hb0 hb1 hb2 hb3
  go_enter Try.func18, Try.ntmps18
  go_wp2_with fail
  go_loopg [5, 6] l.length (fun g v5 v6 wr => ∃ k : Nat, v6 = .int .i64 (k : Int) ∧ k + g = l.length ∧ Hid (wr.ownsRow w.heap.size 9 1 v5 (((l.take k).filter (lrDue nw ln)).map (·.1)).length (strs (((l.take k).filter (lrDue nw ln)).map (·.1)))) ∧ Hid (Fr w wr (fun _ => False)))
  case atStart => exact ⟨0, rfl, by omega, Lib.hid (World.ownsRow_nil _ _ _ _), Lib.hid (Fr.refl _ _)⟩
  case round =>
    obtain ⟨k, rfl, hk, HO, HF⟩ := hrel
    have HK := Lib.hid hk
    have HA := Lib.hid (H.out.frNone HF.out)
    by_cases hlt : k < l.length
    · have t1 : decide ((k : Int) < (l.length : Int)) = true := decide_eq_true (by omega)
      have t1n : decide (k < l.length) = true := decide_eq_true hlt
      have HLT := Lib.hid hlt
      obtain ⟨x, hx⟩ : ∃ x, l[k]? = some x := ⟨l[k], List.getElem?_eq_getElem _⟩
      obtain ⟨g, cap, rfl, _, _, c0, c1, c2, _⟩ := HA.out.at hx
      have z1 : wr.cell? ⟨rt, 1, none⟩ = some (.slice (some ⟨g, 0, none⟩) l.length cap) := HA.out.blk.cell 1
      have z1d : ∀ d, (wr.drewN d).cell? ⟨rt, 1, none⟩ = some (.slice (some ⟨g, 0, none⟩) l.length cap) := fun d => z1
      have z0d : ∀ d, (wr.drewN d).cell? ⟨rt, 0, none⟩ = some (.int .i64 len) := fun d => HA.out.blk.cell 0
      have c2d : ∀ d, (wr.drewN d).cell? ⟨g, k * 3 + 2, none⟩ = some (.int .i64 x.2.2) := fun d => c2
      have ka : ((k : Int)).toNat = k := by omega
      have kp : (0 : Int) ≤ (k : Int) := by omega
      have kz : (k : Int) < (l.length : Int) := by omega
      have kw : k + 1 < 4000000000001 := by have := HN.out; omega
      have HTK : Hid (((l.take (k + 1)).filter (lrDue nw ln)).map (·.1) = ((l.take k).filter (lrDue nw ln)).map (·.1) ++ (if lrDue nw ln x = true then [x.1] else [])) := Lib.hid (by
        rw [List.take_add_one, hx, List.filter_append, List.map_append]
        congr 1
        cases hq : lrDue nw ln x <;> simp [hq])
      have hml : (((l.take k).filter (lrDue nw ln)).map (·.1)).length ≤ l.length := by rw [List.length_map]; exact Nat.le_trans (List.length_filter_le _ _) (by rw [List.length_take]; omega)
      have HML : Hid ((((l.take k).filter (lrDue nw ln)).map (·.1)).length < 4000000000000) := Lib.hid (Nat.lt_of_le_of_lt hml HN.out)
      have hqd : decide (x.2.2 ≤ nw - ln) = lrDue nw ln x := rfl
      generalize ((l.take k).filter (lrDue nw ln)).map (·.1) = out at HO HML HTK ⊢
      clear hx hlt hk hml c1
      cases hq : lrDue nw ln x with
      | true =>
        rw [hq] at hqd HTK
        clear hq
        go_upto_region 5 with (fail)
        go_quiet ((first | (go_at_call 21; with_reducible exact quiet_of (HCL.out _)) | (go_at_call 21; with_reducible exact quiet_of (HCL2.out _))))
        have hz := (Fr.refl wr (fun _ => False)).drewN nq
        have HF3 := Lib.hid (HF.out.trans hz fun _ _ e => e)
        have HO3 := Lib.hid (own_drewN HO.out nq)
        have z3 : (wr.drewN nq).cell? ⟨rt, 1, none⟩ = some (.slice (some ⟨g, 0, none⟩) l.length cap) := z1
        have c3 : (wr.drewN nq).cell? ⟨g, k * 3, none⟩ = some (.string x.1) := c0
        clear hz HF HO z1 z1d z0d c2d c0 c2 HA
        generalize wr.drewN nq = w3 at HF3 HO3 z3 c3 ⊢
        go_wp2_with (at_builtin; refine wpList_app rfl _ _ 22 rfl w.heap.size 9 _ 1 16 Try.underlying22 str_info rfl (by decide) _ out.length _ rfl HO3.out _ _ 1 1 rfl rfl rfl (by have := HML.out; unfold maxLen; omega) (by have := HML.out; omega) HF3.out.size ?_; intro v' w7 hO hG hN2)
        have hf7 : Fr w3 w7 (fun j => w.heap.size ≤ j) := Fr.of_grown hG.out fun j e => (HO3.out.lt j e).1
        have HF7 : Hid (Fr w w7 (fun _ => False)) := Lib.hid (HF3.out.trans hf7 fun y hy e => by omega)
        clear kw hf7
        go_roundg (l.length - (k + 1))
        case measure => have := HK.out; have := HLT.out; omega
        case rel => exact ⟨k + 1, by first | rfl | go_num, by have := HK.out; have := HLT.out; omega, by rw [HTK.out]; exact Lib.hid (strs_snoc hO.out), HF7⟩
      | false =>
        rw [hq] at hqd HTK
        clear hq
        go_upto_region 5 with (fail)
        go_quiet ((first | (go_at_call 21; with_reducible exact quiet_of (HCL.out _)) | (go_at_call 21; with_reducible exact quiet_of (HCL2.out _))))
        have hz := (Fr.refl wr (fun _ => False)).drewN nq
        have HF3 := Lib.hid (HF.out.trans hz fun _ _ e => e)
        have HO3 := Lib.hid (own_drewN HO.out nq)
        clear hz HF HO z1 z1d z0d c2d c0 c2 HA
        generalize wr.drewN nq = w3 at HF3 HO3 ⊢
        go_wp2_with fail
        clear kw
        go_roundg (l.length - (k + 1))
        case measure => have := HK.out; have := HLT.out; omega
        case rel => exact ⟨k + 1, by first | rfl | go_num, by have := HK.out; have := HLT.out; omega, by rw [HTK.out]; simpa using HO3, HF3⟩
    · have t1 : decide ((k : Int) < (l.length : Int)) = false := decide_eq_false (by omega)
      have t1n : decide (k < l.length) = false := decide_eq_false hlt
      have hfull : l.take k = l := List.take_of_length_le (by omega)
      rw [hfull] at HO
      obtain ⟨A5, cc5, hv5⟩ := H.out.row.slice
      rw [List.length_map] at hv5
      have z2 : wr.cell? ⟨rt, 1, none⟩ = some (.slice A5 l.length cc5) := by rw [← hv5]; exact HA.out.blk.cell 1
      have HP := Lib.hid (show RDuePost w l nw ln (.returned u5) wr from ⟨_, rfl, HO.out, HF.out⟩)
      clear hfull hlt hk hv5
      go_wp2_with fail
      go_ret
      exact HP.out
set_option maxRecDepth 20000 in
set_option maxHeartbeats 4000000 in
/-- two slices that hold the same texts -/
theorem texts_same (B1 B2 : Nat) (u v : Value) (ss : List ByteArray) (w : World) (hu : w.ownsRow B1 9 1 u ss.length (strs ss)) (hv : w.ownsRow B2 9 1 v ss.length (strs ss)) (hn : ss.length < 8796093022208) :
    Calls Try.prog 17 #[u, v] w fun e w' => e = .returned (.bool true) ∧ Fr w w' (fun _ => False) := by
  have HU := Lib.hid hu
  have HV := Lib.hid hv
  have HN := Lib.hid hn
  obtain ⟨A, c, rfl⟩ := own_slice hu
  obtain ⟨A2, c2, rfl⟩ := own_slice hv
  clear hu hv hn
  go_enter Try.func17, Try.ntmps17
  go_wp2_with fail
  go_loopg [5] ss.length (fun g v5 wr => ∃ k : Nat, v5 = .int .i64 (k : Int) ∧ k + g = ss.length ∧ Hid (Fr w wr (fun _ => False)))
  case atStart => exact ⟨0, rfl, by omega, Lib.hid (Fr.refl _ _)⟩
  case round =>
    obtain ⟨k, rfl, hk, HF⟩ := hrel
    have HK := Lib.hid hk
    by_cases hlt : k < ss.length
    · have t1 : decide ((k : Int) < (ss.length : Int)) = true := decide_eq_true (by omega)
      have t1n : decide (k < ss.length) = true := decide_eq_true hlt
      have HLT := Lib.hid hlt
      obtain ⟨x, hx⟩ : ∃ x, ss[k]? = some x := ⟨ss[k], List.getElem?_eq_getElem _⟩
      obtain ⟨g1, cp1, he1, _, _, hC1⟩ := own_some (own_fr HU.out HF.out (fun _ _ e => e)) (by omega)
      obtain ⟨g2, cp2, he2, _, _, hC2⟩ := own_some (own_fr HV.out HF.out (fun _ _ e => e)) (by omega)
      cases he1
      cases he2
      have hc1 : wr.cell? ⟨g1, k, none⟩ = some (.string x) := (hC1.get (j := k) (by simp [strs, hx])).1
      have hc2 : wr.cell? ⟨g2, k, none⟩ = some (.string x) := (hC2.get (j := k) (by simp [strs, hx])).1
      have d1 : ∀ d, (wr.drewN d).cell? ⟨g1, k, none⟩ = some (.string x) := fun d => hc1
      have d2 : ∀ d, (wr.drewN d).cell? ⟨g2, k, none⟩ = some (.string x) := fun d => hc2
      have ka : ((k : Int)).toNat = k := by omega
      have kp : (0 : Int) ≤ (k : Int) := by omega
      have kz : (k : Int) < (ss.length : Int) := by omega
      have kw : k + 1 < 8796093022209 := by have := HN.out; omega
      have hxx : (x.toList == x.toList) = true := beq_self_eq_true _
      clear hC1 hC2 hc1 hc2 hx hlt hk
      go_upto_region 6 with (fail)
      go_quiet (fail)
      have HF3 := Lib.hid (HF.out.drewN nq)
      clear d1 d2 hxx HF
      generalize wr.drewN nq = w3 at HF3 ⊢
      go_wp2_with fail
      clear kw
      go_roundg (ss.length - (k + 1))
      case measure => have := HK.out; have := HLT.out; omega
      case rel => exact ⟨k + 1, by first | rfl | go_num, by have := HK.out; have := HLT.out; omega, HF3⟩
    · have t1 : decide ((k : Int) < (ss.length : Int)) = false := decide_eq_false (by omega)
      have t1n : decide (k < ss.length) = false := decide_eq_false hlt
      clear hlt hk
      go_wp2_with fail
      go_ret
      exact ⟨rfl, HF.out⟩
end Go.Proofs.Ytngpmlolpigeoaa
