/- WireThereAndBack: what was put comes out again, and nothing is left. -/
import Derived.Test.YtbpphflegjebaaaWireBack
import Derived.Deep.RegionHeld3
namespace Go.Proofs.Ytbpphflegjebaaa
open Go.RowKit
set_option linter.unusedVariables false
set_option linter.unusedSimpArgs false
theorem fr_undrew {w w' : World} {S : Nat → Prop} (h : Fr w.drew w' S) : Fr w w' S := ⟨h.os, h.tape, h.output, h.size, h.block⟩
set_option maxRecDepth 20000 in
set_option maxHeartbeats 4000000 in
theorem wireThereAndBack_walk (W : World) (sa : Option Addr) (sl sc : Nat) (xs : List Item) (hR : RItems W [.slice sa sl sc] xs) (hb : bulkL (fun (x : Item) => vbulk x.cells) xs ≤ 1048576) :
    Calls Try.prog 6 #[.slice sa sl sc] W fun e w' => e = .returned (.bool true) ∧ Below W.heap.size W w' := by
  obtain ⟨a, n, cap, hv, hn, hnc, hcb, hcm, hnone, hel⟩ := hR
  cases hv
  have hel' : Hid (∀ (j : Nat) (x : Item), xs[j]? = some x → ∃ b off, sa = some ⟨b, off, none⟩ ∧ b < W.heap.size ∧ x.Wf ∧ ∀ (i : Nat) (c : Value), x.cells[i]? = some c → W.cell? ⟨b, off + (j * 4 + i), none⟩ = some c) := Lib.hid fun j x hx => by
    obtain ⟨b, off, e1, e2, e3⟩ := hel (by have := (List.getElem?_eq_some_iff.1 hx).1; omega)
    obtain ⟨es, h1, h2, rfl, h4⟩ := e3 j x hx
    exact ⟨b, off, e1, e2, h4, h2⟩
  have hwf : ∀ x ∈ xs, x.Wf := fun x hx => by
    obtain ⟨j, hj⟩ := List.mem_iff_getElem?.1 hx
    obtain ⟨_, _, _, _, h, _⟩ := hel'.out j x hj
    exact h
  have hlen := encAll_len hwf
  unfold bulkL at hb
  have HLEN : Hid ((encAll xs).length ≤ 3145728) := Lib.hid (by omega)
  have hsl : sl ≤ 140737488355328 := by omega
  clear hel hb hlen hcb hcm hnone hwf
  go_enter Try.func6, Try.ntmps6
  go_wp2_with fail
  refine (wireSpeaks_any W).mono ?_
  rintro e w1 ⟨rfl, hbl⟩
  have HB := Lib.hid hbl
  clear hbl
  go_wp2_with fail
  have HN1 := Lib.hid (PackAt.new w1)
  have hw2 : (w1.alloc (.cells #[.slice none 0 0] 25)).heap.size = w1.heap.size + 1 := by simp
  have HW2 : Hid (Below W.heap.size W (w1.alloc (.cells #[.slice none 0 0] 25))) := Lib.hid (HB.out.alloc HB.out.size (.cells #[.slice none 0 0] 25))
  have h1 := HB.out.size
  generalize w1.alloc (.cells #[.slice none 0 0] 25) = w2 at HN1 hw2 HW2 ⊢
  go_loopg [4] sl (fun g ival wr => ∃ (k : Nat) (v : Value), ival = .int .i64 k ∧ k ≤ sl ∧ g = sl - k ∧ Hid (PackAt wr w1.heap.size v (encAll (xs.take k))) ∧ Hid (PackR w2 w1.heap.size (.slice none 0 0) wr v) ∧ Hid (∀ x ∈ xs.take k, x.kd = 1 → x.s.size ≤ 1048576))
  case atStart => exact ⟨0, _, rfl, Nat.zero_le _, rfl, HN1, Lib.hid (PackR.refl _ _ _), Lib.hid (fun x h => by simp at h)⟩
  case round =>
    obtain ⟨k, v, rfl, hk, hg, HP, HR, HT⟩ := hrel
    subst hg
    have HBW : Hid (Below W.heap.size W wr) := Lib.hid (HW2.out.trans (HR.out.below h1 (fun k e => by cases e) (by omega)))
    by_cases h : k < sl
    · obtain ⟨x, hx⟩ : ∃ x, xs[k]? = some x := ⟨xs[k], List.getElem?_eq_getElem (by omega)⟩
      obtain ⟨b, off, rfl, hbW, hxw, hcell⟩ := hel'.out k x hx
      have HX := Lib.hid hx
      have HTK : Hid ((x.kd = 1 → x.s.size ≤ 1048576) → ∀ y ∈ xs.take (k + 1), y.kd = 1 → y.s.size ≤ 1048576) := Lib.hid (fun hx1 y hy => by
        rw [List.take_add_one, hx] at hy
        rcases List.mem_append.1 hy with h | h
        · exact HT.out y h
        · have : y = x := by simpa using h
          subst this; exact hx1)
      clear hx hel'
      have HXW := Lib.hid hxw
      clear hxw
      have hcw : ∀ (i : Nat) (c : Value), x.cells[i]? = some c → wr.cell? ⟨b, off + (k * 4 + i), none⟩ = some c := fun i c hc => (HBW.out.cell (p := ⟨b, off + (k * 4 + i), none⟩) hbW).trans (hcell i c hc)
      have d0 : wr.cell? ⟨b, off + k * 4, none⟩ = some (.int .i64 x.kind) := hcw 0 _ rfl
      have d1 : wr.cell? ⟨b, off + k * 4 + 1, none⟩ = some (.int .i64 x.n) := hcw 1 _ rfl
      have d2 : wr.cell? ⟨b, off + k * 4 + 2, none⟩ = some (.string x.s) := hcw 2 _ rfl
      have d3 : wr.cell? ⟨b, off + k * 4 + 3, none⟩ = some (.bool x.b) := hcw 3 _ rfl
      clear hcw hcell
      have hln : Hid ((encAll (xs.take (k + 1))).length ≤ 140737488355328) := Lib.hid (by have := encAll_take_len xs (k + 1); have := HLEN.out; omega)
      go_wp2_with fail
      refine (kind_any x.kind HXW.out.k1 HXW.out.k2 _).mono ?_
      rintro e w3 ⟨rfl, rfl⟩
      have hkk : x.kd = 0 ∨ x.kd = 1 ∨ x.kd = 2 := by have := x.kd_lt; omega
      have hl0 : (encAll (List.take k xs)).length ≤ 3145728 := by have := encAll_take_len xs k; have := HLEN.out; omega
      rcases hkk with hkd | hkd | hkd
      · have hkz : (x.kind % 3).toNat = 0 := hkd
        rw [hkz]
        have hEnc : encAll (xs.take k) ++ Wire.enc x.n = encAll (xs.take (k + 1)) := by rw [encAll_take HX.out]; congr 1; unfold Item.enc; rw [hkd]; simp
        have HENC := Lib.hid hEnc
        have HKD := Lib.hid hkd
        clear hkz hkd hEnc
        go_wp2_with fail
        refine (pint_any w1.heap.size v _ x.n HXW.out.n1 HXW.out.n2 wr HP.out (by rw [HENC.out]; exact hln.out)).mono ?_
        rintro e w4 ⟨rfl, v4, hP4, hR4⟩
        have HR4 := Lib.hid (HR.out.trans hR4)
        have HP4 := Lib.hid (HENC.out ▸ hP4 : PackAt w4 w1.heap.size v4 (encAll (xs.take (k + 1))))
        clear hP4 hR4
        go_wp2
        go_roundg (sl - (k + 1))
        case measure => omega
        case rel => exact ⟨k + 1, v4, by first | rfl | go_num, by omega, rfl, HP4, HR4, Lib.hid (HTK.out (fun e => by rw [HKD.out] at e; cases e))⟩
      · have hkz : (x.kind % 3).toNat = 1 := hkd
        rw [hkz]
        have HKD := Lib.hid hkd
        by_cases hlong : x.s.size ≤ 1048576
        · have hEnc : encAll (xs.take k) ++ (Wire.enc x.s.size ++ x.s.data.toList) = encAll (xs.take (k + 1)) := by rw [encAll_take HX.out]; congr 1; unfold Item.enc; rw [hkd]; simp
          have HENC := Lib.hid hEnc
          have t1 : decide ((1048576 : Int) < (x.s.size : Int)) = false := by simp; omega
          have HLONG := Lib.hid hlong
          clear hkz hkd hEnc hlong
          go_wp2_with fail
          refine (ptext_any w1.heap.size v _ x.s wr HP.out (by rw [HENC.out]; exact hln.out)).mono ?_
          rintro e w4 ⟨rfl, v4, hP4, hR4⟩
          have HR4 := Lib.hid (HR.out.trans hR4)
          have HP4 := Lib.hid (HENC.out ▸ hP4 : PackAt w4 w1.heap.size v4 (encAll (xs.take (k + 1))))
          clear hP4 hR4
          go_wp2
          go_roundg (sl - (k + 1))
          case measure => omega
          case rel => exact ⟨k + 1, v4, by first | rfl | go_num, by omega, rfl, HP4, HR4, Lib.hid (HTK.out (fun _ => HLONG.out))⟩
        · have t1 : decide ((1048576 : Int) < (x.s.size : Int)) = true := by simp; omega
          clear hkz hkd hlong
          go_wp2
          go_ret
          exact ⟨rfl, HBW.out⟩
      · have hkz : (x.kind % 3).toNat = 2 := hkd
        rw [hkz]
        have hEnc : encAll (xs.take k) ++ [if x.b then 1 else 0] = encAll (xs.take (k + 1)) := by rw [encAll_take HX.out]; congr 1; unfold Item.enc; rw [hkd]; simp
        have HENC := Lib.hid hEnc
        have HKD := Lib.hid hkd
        clear hkz hkd hEnc
        go_wp2_with fail
        refine (pbool_any w1.heap.size v _ x.b wr HP.out (by omega)).mono ?_
        rintro e w4 ⟨rfl, v4, hP4, hR4⟩
        have HR4 := Lib.hid (HR.out.trans hR4)
        have HP4 := Lib.hid (HENC.out ▸ hP4 : PackAt w4 w1.heap.size v4 (encAll (xs.take (k + 1))))
        clear hP4 hR4
        go_wp2
        go_roundg (sl - (k + 1))
        case measure => omega
        case rel => exact ⟨k + 1, v4, by first | rfl | go_num, by omega, rfl, HP4, HR4, Lib.hid (HTK.out (fun e => by rw [HKD.out] at e; cases e))⟩
    · have hke : k = sl := by omega
      obtain ⟨w5, rfl⟩ : ∃ w5, w5 = wr := ⟨_, rfl⟩
      have HALL : Hid (∀ x ∈ xs, x.kd = 1 → x.s.size ≤ 1048576) := Lib.hid (by
        have h := HT.out
        rw [List.take_of_length_le (by omega)] at h
        exact h)
      have HPA : Hid (PackAt w5 w1.heap.size v (encAll xs)) := Lib.hid (by
        have h := HP.out
        rw [List.take_of_length_le (by omega)] at h
        exact h)
      clear hke HP HT
      go_wp2_with fail
      refine (pbytes_any w1.heap.size v (encAll xs) w5 HPA.out).mono ?_
      rintro e w6 ⟨rfl, rfl⟩
      go_wp2_with fail
      refine (uopen_any ⟨(encAll xs).toArray⟩ w5).mono ?_
      rintro e w7 ⟨rfl, hU, hB7, hz7⟩
      have HU7 := Lib.hid hU
      have HB7 := Lib.hid (below_then HBW.out HBW.out.size hB7)
      have WZ := Lib.hid HBW.out.size
      clear hU hB7 hz7
      go_wp2
      go_loopg [6] sl (fun g ival wr => ∃ (k : Nat) (st : St), ival = .int .i64 k ∧ k ≤ sl ∧ g = sl - k ∧ Hid (st.err = 0) ∧ Hid (st.rest.data.toList = encAll (xs.drop k)) ∧ Hid (UnpAt wr w5.heap.size st) ∧ Hid (Fr w7 wr (fun k => k = w5.heap.size)))
      case atStart => exact ⟨0, _, rfl, Nat.zero_le _, rfl, Lib.hid rfl, Lib.hid rfl, HU7, Lib.hid (Fr.refl _ _)⟩
      case round =>
        obtain ⟨k, st, rfl, hk, hg, HERR, HST, HU, HF⟩ := hrel
        subst hg
        have HQW : Hid (W.heap.size ≤ wr.heap.size) := Lib.hid (Nat.le_trans HB7.out.size HF.out.size)
        by_cases h : k < sl
        · obtain ⟨x, hx⟩ : ∃ x, xs[k]? = some x := ⟨xs[k], List.getElem?_eq_getElem (by omega)⟩
          obtain ⟨b, off, rfl, hbW, hxw, hcell⟩ := hel'.out k x hx
          have HX := Lib.hid hx
          have HAX : Hid (x.kd = 1 → x.s.size ≤ 1048576) := Lib.hid (HALL.out x (List.mem_of_getElem? hx))
          have HXW := Lib.hid hxw
          have hcw : ∀ (i : Nat) (c : Value), x.cells[i]? = some c → wr.cell? ⟨b, off + (k * 4 + i), none⟩ = some c := fun i c hc => (HF.out.cell (p := ⟨b, off + (k * 4 + i), none⟩) (Nat.lt_of_lt_of_le hbW HB7.out.size) (by show ¬ b = w5.heap.size; have := WZ.out; omega)).trans ((HB7.out.cell (p := ⟨b, off + (k * 4 + i), none⟩) hbW).trans (hcell i c hc))
          have d0 : wr.cell? ⟨b, off + k * 4, none⟩ = some (.int .i64 x.kind) := hcw 0 _ rfl
          have d1 : wr.cell? ⟨b, off + k * 4 + 1, none⟩ = some (.int .i64 x.n) := hcw 1 _ rfl
          have d2 : wr.cell? ⟨b, off + k * 4 + 2, none⟩ = some (.string x.s) := hcw 2 _ rfl
          have d3 : wr.cell? ⟨b, off + k * 4 + 3, none⟩ = some (.bool x.b) := hcw 3 _ rfl
          have HSIZE : Hid (st.rest.size ≤ 140737488351232) := Lib.hid (by
            have h1 : st.rest.data.toList.length = st.rest.size := by simp
            have h2 := HLEN.out
            rw [HST.out] at h1
            have h3 : (encAll (xs.drop k)).length ≤ (encAll xs).length := by
              have e : encAll xs = encAll (xs.take k) ++ encAll (xs.drop k) := by unfold encAll; rw [← List.flatten_append, ← List.map_append, List.take_append_drop]
              rw [e, List.length_append]; omega
            omega)
          clear hcw hcell hx hxw
          have hbW2 := hbW
          go_wp2_with fail
          refine (kind_any x.kind HXW.out.k1 HXW.out.k2 _).mono ?_
          rintro e w3 ⟨rfl, rfl⟩
          rcases (show x.kd = 0 ∨ x.kd = 1 ∨ x.kd = 2 by have := x.kd_lt; omega) with hkd | hkd | hkd
          · have hkz : (x.kind % 3).toNat = 0 := hkd
            rw [hkz]
            have hd : st.rest.data.toList = Wire.enc x.n ++ encAll (xs.drop (k + 1)) := by
              have h := HST.out
              rw [encAll_drop HX.out] at h
              unfold Item.enc at h
              rw [hkd] at h
              simpa using h
            obtain ⟨q1, q2, q3⟩ := int_back st x.n _ HERR.out HXW.out.n1 HXW.out.n2 hd
            have HQ2 := Lib.hid q2
            have HQ3 := Lib.hid q3
            have HCON : ∀ w', UnpAt w' w5.heap.size st → Hid (Calls Try.prog 18 #[.pointer (some ⟨w5.heap.size, 0, none⟩)] w' fun e w'' => e = .returned (.int .i64 x.n) ∧ UnpAt w'' w5.heap.size st.int.1 ∧ Fr w' w'' (fun k => k = w5.heap.size)) := fun w' h => Lib.hid (by
              have := uint_any w5.heap.size st w' h
              rw [q1] at this; exact this)
            have HCON := Lib.hid HCON
            have HNB : Hid (b ≠ w5.heap.size) := Lib.hid (by have := WZ.out; omega)
            have dd : wr.drew.cell? ⟨b, off + k * 4 + 1, none⟩ = some (.int .i64 x.n) := d1
            clear hkz hkd hd q1 q2 q3
            go_wp2_with fail
            go_region_held3 (fun w' => w'.cell? ⟨b, off + k * 4 + 1, none⟩ = some (.int .i64 x.n))
              (first | exact d1 | exact dd | go_keep)
              (first | (go_at_call 18; refine ((HCON.out wr.drew HU.out).out).mono ?_; rintro e w3 ⟨rfl, hU3, hF3⟩; have k3 : w3.cell? ⟨b, off + k * 4 + 1, none⟩ = some (.int .i64 x.n) := (hF3.cell (p := ⟨b, off + k * 4 + 1, none⟩) (Nat.lt_of_lt_of_le hbW HQW.out) HNB.out).trans dd; have U3 := Lib.hid hU3; have F3 := Lib.hid (HF.out.trans (fr_undrew hF3) (fun _ _ h => h)); clear hU3 hF3))
            all_goals
              go_wp2
              go_roundg (sl - (k + 1))
              case measure => omega
              case rel => exact ⟨k + 1, st.int.1, by first | rfl | go_num, by omega, rfl, HQ2, HQ3, U3, F3⟩
          · have hkz : (x.kind % 3).toNat = 1 := hkd
            rw [hkz]
            have hd : st.rest.data.toList = Wire.enc x.s.size ++ (x.s.data.toList ++ encAll (xs.drop (k + 1))) := by
              have h := HST.out
              rw [encAll_drop HX.out] at h
              unfold Item.enc at h
              rw [hkd] at h
              simpa using h
            obtain ⟨q1, q2, q3⟩ := text_back st x.s _ HERR.out (HAX.out hkd) hd
            have HQ2 := Lib.hid q2
            have HQ3 := Lib.hid q3
            have HCON : ∀ w', UnpAt w' w5.heap.size st → Hid (Calls Try.prog 20 #[.pointer (some ⟨w5.heap.size, 0, none⟩)] w' fun e w'' => e = .returned (.string x.s) ∧ UnpAt w'' w5.heap.size st.text.1 ∧ Fr w' w'' (fun k => k = w5.heap.size)) := fun w' h => Lib.hid (by
              have := utext_any w5.heap.size st w' h HSIZE.out
              rw [q1] at this; exact this)
            have HCON := Lib.hid HCON
            have HNB : Hid (b ≠ w5.heap.size) := Lib.hid (by have := WZ.out; omega)
            have dd : wr.drew.cell? ⟨b, off + k * 4 + 2, none⟩ = some (.string x.s) := d2
            clear hkz hkd hd q1 q2 q3
            go_wp2_with fail
            go_region_held3 (fun w' => w'.cell? ⟨b, off + k * 4 + 2, none⟩ = some (.string x.s))
              (first | exact d2 | exact dd | go_keep)
              (first | (go_at_call 20; refine ((HCON.out wr.drew HU.out).out).mono ?_; rintro e w3 ⟨rfl, hU3, hF3⟩; have k3 : w3.cell? ⟨b, off + k * 4 + 2, none⟩ = some (.string x.s) := (hF3.cell (p := ⟨b, off + k * 4 + 2, none⟩) (Nat.lt_of_lt_of_le hbW HQW.out) HNB.out).trans dd; have U3 := Lib.hid hU3; have F3 := Lib.hid (HF.out.trans (fr_undrew hF3) (fun _ _ h => h)); clear hU3 hF3))
            all_goals
              go_wp2
              go_roundg (sl - (k + 1))
              case measure => omega
              case rel => exact ⟨k + 1, st.text.1, by first | rfl | go_num, by omega, rfl, HQ2, HQ3, U3, F3⟩
          · have hkz : (x.kind % 3).toNat = 2 := hkd
            rw [hkz]
            have hd : st.rest.data.toList = [if x.b then 1 else 0] ++ encAll (xs.drop (k + 1)) := by
              have h := HST.out
              rw [encAll_drop HX.out] at h
              unfold Item.enc at h
              rw [hkd] at h
              simpa using h
            obtain ⟨q1, q2, q3⟩ := bool_back st x.b _ HERR.out hd
            have HQ2 := Lib.hid q2
            have HQ3 := Lib.hid q3
            have HCON : ∀ w', UnpAt w' w5.heap.size st → Hid (Calls Try.prog 22 #[.pointer (some ⟨w5.heap.size, 0, none⟩)] w' fun e w'' => e = .returned (.bool x.b) ∧ UnpAt w'' w5.heap.size st.bool.1 ∧ Fr w' w'' (fun k => k = w5.heap.size)) := fun w' h => Lib.hid (by
              have := ubool_any w5.heap.size st w' h
              rw [q1] at this; exact this)
            have HCON := Lib.hid HCON
            have HNB : Hid (b ≠ w5.heap.size) := Lib.hid (by have := WZ.out; omega)
            have dd : wr.drew.cell? ⟨b, off + k * 4 + 3, none⟩ = some (.bool x.b) := d3
            clear hkz hkd hd q1 q2 q3
            go_wp2_with fail
            go_region_held3 (fun w' => w'.cell? ⟨b, off + k * 4 + 3, none⟩ = some (.bool x.b))
              (first | exact d3 | exact dd | go_keep)
              (first | (go_at_call 22; refine ((HCON.out wr.drew HU.out).out).mono ?_; rintro e w3 ⟨rfl, hU3, hF3⟩; have k3 : w3.cell? ⟨b, off + k * 4 + 3, none⟩ = some (.bool x.b) := (hF3.cell (p := ⟨b, off + k * 4 + 3, none⟩) (Nat.lt_of_lt_of_le hbW HQW.out) HNB.out).trans dd; have U3 := Lib.hid hU3; have F3 := Lib.hid (HF.out.trans (fr_undrew hF3) (fun _ _ h => h)); clear hU3 hF3))
            all_goals
              go_wp2
              go_roundg (sl - (k + 1))
              case measure => omega
              case rel => exact ⟨k + 1, st.bool.1, by first | rfl | go_num, by omega, rfl, HQ2, HQ3, U3, F3⟩
        · have hke : k = sl := by omega
          have HE : Hid (st.fin = 0) := Lib.hid (fin_end st HERR.out (by rw [HST.out, List.drop_of_length_le (by omega)]; rfl))
          have HBQ : Hid (Below W.heap.size W wr) := Lib.hid (HB7.out.trans (HF.out.below (B := W.heap.size) (fun k _ h => by have := WZ.out; omega) HB7.out.size))
          clear hke
          go_wp2_with fail
          refine (uend_any w5.heap.size st wr HU.out).mono ?_
          rintro e w8 ⟨rfl, rfl⟩
          rw [HE.out]
          go_wp2
          go_ret
          exact ⟨rfl, HBQ.out⟩
end Go.Proofs.Ytbpphflegjebaaa
