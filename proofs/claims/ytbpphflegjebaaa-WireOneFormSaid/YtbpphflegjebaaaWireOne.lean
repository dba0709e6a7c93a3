/- WireOneForm: what can be taken from any bytes is written in just these bytes. -/
import Derived.Test.YtbpphflegjebaaaWireBack
import Derived.Test.YtbpphflegjebaaaWireUnpacks
namespace Go.Proofs.Ytbpphflegjebaaa
open Go.RowKit
set_option linter.unusedVariables false
set_option linter.unusedSimpArgs false
theorem decU_bad : ∀ (l : List UInt8) (i acc e : Nat), Wire.decU l i acc = .bad e → e = 20 ∨ e = 21
  | [], i, acc, e, h => by rw [Wire.decU] at h; injection h with h; omega
  | b :: l, i, acc, e, h => by
    rw [Wire.decU] at h
    split at h
    · injection h with h; omega
    · split at h
      · exact decU_bad l _ _ e h
      · split at h
        · injection h with h; omega
        · cases h
theorem int_form (s : St) (he : s.err = 0) (h : s.int.1.err = 0) : s.rest.data.toList = Wire.enc s.int.2 ++ s.int.1.rest.data.toList ∧ I64 s.int.2 := by
  unfold St.int at h ⊢
  rw [if_neg (by omega)] at h ⊢
  cases hd : Wire.decU s.rest.data.toList 0 0 with
  | bad e =>
    rw [hd] at h
    have := decU_bad _ _ _ _ hd
    dsimp only at h
    omega
  | ok u k =>
    obtain ⟨h1, h2, h3, h4⟩ := Wire.decU_one hd
    have hb := Wire.unzz_bd h1
    dsimp only
    refine ⟨?_, ⟨hb.1, hb.2⟩⟩
    unfold Wire.enc St.take
    dsimp only
    rw [Wire.zz_unzz, ← h4, ext_drop, List.take_append_drop]
theorem int_fail (s : St) (he : s.err = 0) (h : s.int.1.err ≠ 0) : s.int.2 = 0 ∧ s.int.1.err ≠ 22 := by
  unfold St.int at h ⊢
  rw [if_neg (by omega)] at h ⊢
  cases hd : Wire.decU s.rest.data.toList 0 0 with
  | bad e =>
    have := decU_bad _ _ _ _ hd
    dsimp only
    omega
  | ok u k =>
    rw [hd] at h
    exact absurd rfl h
theorem text_form (s : St) (he : s.err = 0) (h : s.text.1.err = 0) : s.rest.data.toList = Wire.enc s.text.2.size ++ (s.text.2.data.toList ++ s.text.1.rest.data.toList) ∧ s.text.2.size ≤ 1048576 := by
  have hf := int_form s he
  unfold St.text at h ⊢
  generalize s.int.1 = s1 at h hf ⊢
  generalize s.int.2 = n at h hf ⊢
  unfold textOf at h ⊢
  by_cases h1 : s1.err ≠ 0
  · rw [if_pos h1] at h; exact absurd h h1
  rw [if_neg h1] at h ⊢
  by_cases h2 : n < 0
  · rw [if_pos h2] at h; cases h
  rw [if_neg h2] at h ⊢
  by_cases h3 : 1048576 < n
  · rw [if_pos h3] at h; cases h
  rw [if_neg h3] at h ⊢
  by_cases h4 : (s1.rest.size : Int) < n
  · rw [if_pos h4] at h; cases h
  rw [if_neg h4]
  obtain ⟨m, rfl⟩ : ∃ m : Nat, n = m := ⟨n.toNat, by omega⟩
  have hm : m ≤ s1.rest.size := by omega
  have e1 : (s1.rest.extract 0 m).size = m := by simp; omega
  dsimp only
  rw [Int.toNat_natCast, e1]
  refine ⟨?_, by omega⟩
  rw [(hf (by omega)).1]
  congr 1
  unfold St.take
  dsimp only
  rw [ext_drop, show (s1.rest.extract 0 m).data.toList = s1.rest.data.toList.take m by simp, List.take_append_drop]
theorem text_fail (s : St) (he : s.err = 0) (h : s.text.1.err ≠ 0) : s.text.2 = ⟨#[]⟩ ∧ s.text.1.err ≠ 22 := by
  have hf := int_fail s he
  unfold St.text at h ⊢
  generalize s.int.1 = s1 at h hf ⊢
  generalize s.int.2 = n at h hf ⊢
  unfold textOf at h ⊢
  by_cases h1 : s1.err ≠ 0
  · rw [if_pos h1]; exact ⟨rfl, (hf h1).2⟩
  rw [if_neg h1] at h ⊢
  by_cases h2 : n < 0
  · rw [if_pos h2]; exact ⟨rfl, by simp [St.fail]⟩
  rw [if_neg h2] at h ⊢
  by_cases h3 : 1048576 < n
  · rw [if_pos h3]; exact ⟨rfl, by simp [St.fail]⟩
  rw [if_neg h3] at h ⊢
  by_cases h4 : (s1.rest.size : Int) < n
  · rw [if_pos h4]; exact ⟨rfl, by simp [St.fail]⟩
  rw [if_neg h4] at h
  exact absurd rfl h
theorem bool_form (s : St) (he : s.err = 0) (h : s.bool.1.err = 0) : s.rest.data.toList = [if s.bool.2 then 1 else 0] ++ s.bool.1.rest.data.toList := by
  cases hr : s.rest.data.toList with
  | nil =>
    unfold St.bool at h
    rw [if_neg (show ¬ s.err ≠ 0 by omega), hr] at h; cases h
  | cons b l =>
    by_cases h1 : 1 < b.toNat
    · unfold St.bool at h
      rw [if_neg (show ¬ s.err ≠ 0 by omega), hr] at h
      dsimp only at h
      rw [if_pos h1] at h; cases h
    · have e : s.bool = (s.take 1, b.toNat == 1) := by
        unfold St.bool
        rw [if_neg (show ¬ s.err ≠ 0 by omega), hr]
        dsimp only
        rw [if_neg h1]
      rw [e]
      unfold St.take
      dsimp only
      rw [ext_drop, hr]
      have : b = 0 ∨ b = 1 := by
        have : b.toNat = 0 ∨ b.toNat = 1 := by omega
        rcases this with h | h
        · exact Or.inl (UInt8.toNat_inj.1 h)
        · exact Or.inr (UInt8.toNat_inj.1 h)
      rcases this with rfl | rfl <;> rfl
theorem bool_fail (s : St) (he : s.err = 0) (h : s.bool.1.err ≠ 0) : s.bool.2 = false ∧ s.bool.1.err ≠ 22 := by
  unfold St.bool at h ⊢
  rw [if_neg (show ¬ s.err ≠ 0 by omega)] at h ⊢
  cases hr : s.rest.data.toList with
  | nil => exact ⟨rfl, by simp [St.fail]⟩
  | cons b l =>
    rw [hr] at h
    dsimp only at h ⊢
    by_cases h1 : 1 < b.toNat
    · rw [if_pos h1]; exact ⟨rfl, by simp [St.fail]⟩
    · rw [if_neg h1] at h; exact absurd rfl h
theorem fin_of (s : St) : (s.err = 0 ∧ s.rest.data.toList = [] ∧ s.fin = 0) ∨ (s.err = 0 ∧ s.rest.data.toList ≠ [] ∧ s.fin = 22) ∨ (s.err ≠ 0 ∧ s.fin = s.err) := by
  unfold St.fin
  by_cases h : s.err = 0
  · by_cases hr : s.rest.data.toList = []
    · exact Or.inl ⟨h, hr, by rw [if_neg (by rintro ⟨_, k⟩; exact k hr)]; exact h⟩
    · exact Or.inr (Or.inl ⟨h, hr, by rw [if_pos ⟨h, hr⟩]⟩)
  · exact Or.inr (Or.inr ⟨h, by rw [if_neg (fun k => h k.1)]⟩)
theorem ext_take (s : ByteArray) (l r : List UInt8) (h : l ++ r = s.data.toList) : s.extract 0 l.length = ⟨l.toArray⟩ := by
  apply ByteArray.ext
  apply Array.toList_inj.1
  show (s.extract 0 l.length).data.toList = l
  rw [show (s.extract 0 l.length).data.toList = s.data.toList.take l.length by simp, ← h, List.take_left]
theorem arr_size (l : List UInt8) : (⟨l.toArray⟩ : ByteArray).size = l.length := by
  show l.toArray.size = _
  simp
set_option maxRecDepth 20000 in
set_option maxHeartbeats 8000000 in
theorem wireOneForm_walk (W : World) (s : ByteArray) (hs : s.size ≤ 140737488351232) (A : Option Addr) (n c : Nat) (ks : List Int) (hx : RInts W [.slice A n c] ks) :
    Calls Try.prog 7 #[.string s, .slice A n c] W fun e w' => e = .returned (.bool true) ∧ Below W.heap.size W w' := by
  obtain ⟨hln, hcb, hwf, hV⟩ := vw_rsl1 hx
  have hn : n ≤ 140737488351232 := by have := hV.1; omega
  have HWF := Lib.hid hwf
  have HV := Lib.hid hV
  have HLN := Lib.hid hln
  have HSZ := Lib.hid hs
  have HSL : Hid (s.data.toList.length = s.size) := Lib.hid (by simp)
  clear hwf hV hln hx hcb hs
  go_enter Try.func7, Try.ntmps7
  go_wp2_with fail
  refine (wireSpeaks_any W).mono ?_
  rintro e w0 ⟨rfl, hB0⟩
  have B0 := Lib.hid hB0
  clear hB0
  go_wp2_with fail
  refine (uopen_any s w0).mono ?_
  rintro e w1 ⟨rfl, hU, hB1, hsz1⟩
  have U1 := Lib.hid hU
  have B1 := Lib.hid (below_then B0.out B0.out.size hB1)
  have Z1 := Lib.hid hsz1
  have ZB0 := Lib.hid B0.out.size
  clear hU hB1 hsz1
  go_wp2
  have P2 := Lib.hid (PackAt.new w1)
  have U2 := Lib.hid (Blk.alloc U1.out (.cells #[.slice none 0 0] 25) : UnpAt _ w0.heap.size ⟨s, 0⟩)
  have B2 := Lib.hid (B1.out.alloc (by have := Z1.out; have := ZB0.out; omega) (.cells #[.slice none 0 0] 25))
  have S2 : Hid ((w1.alloc (.cells #[.slice none 0 0] 25)).heap.size = w1.heap.size + 1) := Lib.hid (by simp)
  clear U1 B1
  generalize w1.alloc (.cells #[.slice none 0 0] 25) = w2 at P2 U2 B2 S2 ⊢
  go_loopg [7] n (fun g v7 wr => ∃ (i : Nat) (st : St) (v : Value) (l : List UInt8), v7 = .int .i64 i ∧ i ≤ n ∧ n ≤ g + i ∧ Hid (st.err = 0) ∧ Hid (l ++ st.rest.data.toList = s.data.toList) ∧ Hid (UnpAt wr w0.heap.size st) ∧ Hid (PackAt wr w1.heap.size v l) ∧ Hid (∀ k, v.ownBlock = some k → w2.heap.size ≤ k) ∧ Hid (Fr w2 wr (fun k => k = w0.heap.size ∨ k = w1.heap.size)))
  case atStart => exact ⟨0, ⟨s, 0⟩, _, [], rfl, Nat.zero_le _, by omega, Lib.hid rfl, Lib.hid rfl, U2, P2, Lib.hid (fun k e => by cases e), Lib.hid (Fr.refl _ _)⟩
  case round =>
    clear U2 P2
    obtain ⟨i, st, v, l, rfl, hi, hg, HERR, HST, HU, HP, HV2, HF⟩ := hrel
    have HBW : Hid (Below W.heap.size W wr) := Lib.hid (B2.out.trans (HF.out.below (B := W.heap.size) (fun k _ h => by have := Z1.out; have := ZB0.out; omega) (by have := B2.out.size; omega)))
    have ia : ((i : Int)).toNat = i := by omega
    have pa : (0 : Int) ≤ (i : Int) := by omega
    by_cases hlt : i < n
    · have hltz : (i : Int) < (n : Int) := by omega
      obtain ⟨q, hq⟩ : ∃ q, ks[i]? = some q := ⟨ks[i]'(by rw [HLN.out]; exact hlt), List.getElem?_eq_getElem _⟩
      have hw := HWF.out q (List.mem_of_getElem? hq)
      have gq : (ks.map (Value.int .i64))[i]? = some (.int .i64 q) := by rw [List.getElem?_map, hq]; rfl
      obtain ⟨b, o, rfl, hb, kq⟩ := HV.out.at1 gq
      have kw : wr.cell? ⟨b, o + i, none⟩ = some (.int .i64 q) := (HBW.out.cell (p := ⟨b, o + i, none⟩) hb).trans kq
      have HWQ := Lib.hid hw
      have HRS : Hid (st.rest.size ≤ 140737488351232) := Lib.hid (by
        have h1 : st.rest.data.toList.length = st.rest.size := by simp
        have h2 := congrArg List.length HST.out
        rw [List.length_append] at h2
        have := HSL.out
        have := HSZ.out
        omega)
      clear hq gq kq hb hw
      go_wp2_with fail
      refine (kind_any q HWQ.out.lo HWQ.out.hi wr).mono ?_
      rintro e w' ⟨rfl, rfl⟩
      rcases (show q % 3 = 0 ∨ q % 3 = 1 ∨ q % 3 = 2 by omega) with hk | hk | hk
      · have k0 : ((q % 3).toNat) = 0 := by omega
        rw [k0]
        have HK0 := Lib.hid k0
        have HQ := Lib.hid hk
        clear k0 hk
        go_wp2_with fail
        refine (uint_any (w0.heap.size) st wr HU.out).mono ?_
        rintro e w3 ⟨rfl, hU3, hF3⟩
        have U3 := Lib.hid hU3
        have P3 := Lib.hid (HP.out.fr hF3 (by have := Z1.out; omega) (fun k hk h => by have := HV2.out k hk; have := S2.out; have := Z1.out; have h : k = w0.heap.size := h; omega))
        have F3 := Lib.hid (HF.out.trans hF3 (fun _ _ h => Or.inl h))
        have HFORM := Lib.hid (fun h => int_form st HERR.out h)
        have HFAIL := Lib.hid (fun h => int_fail st HERR.out h)
        clear hU3 hF3
        generalize st.int.2 = ans at HFORM HFAIL ⊢
        generalize st.int.1 = st' at U3 HFORM HFAIL ⊢
        rcases fin_of st' with ⟨he, hr, hf⟩ | ⟨he, hr, hf⟩ | ⟨he, hf⟩
        · have FIN := Lib.hid hf
          have HE3 := Lib.hid he
          have HR3 := Lib.hid hr
          have FORM := Lib.hid (HFORM.out he).1
          have BD := Lib.hid (HFORM.out he).2
          have LL : Hid ((l ++ Wire.enc ans).length ≤ 140737488355328) := Lib.hid (by
            have h2 := congrArg List.length HST.out
            rw [FORM.out] at h2
            simp only [List.length_append] at h2 ⊢
            have := HSL.out
            have := HSZ.out
            omega)
          clear he hr hf HFORM HFAIL
          go_wp2_with fail
          refine (uend_any w0.heap.size st' w3 U3.out).mono ?_
          rintro e w' ⟨rfl, rfl⟩
          rw [FIN.out]
          go_wp2_with fail
          refine (pint_any w1.heap.size v l ans BD.out.lo BD.out.hi w3 P3.out LL.out).mono ?_
          rintro e w4 ⟨rfl, v4, hP4, hR4⟩
          have hps : ¬ PackS w1.heap.size v w0.heap.size := by
            rintro (e | e)
            · have := Z1.out; omega
            · have := HV2.out _ e; have := S2.out; have := Z1.out; omega
          have U4 := Lib.hid (U3.out.fr hR4.fr hps : UnpAt w4 w0.heap.size st')
          have F4 := Lib.hid (F3.out.trans hR4.fr (fun x hx h => by
            rcases h with h | h
            · exact Or.inr h
            · have := HV2.out _ h; omega))
          have V4 : Hid (∀ k, v4.ownBlock = some k → w2.heap.size ≤ k) := Lib.hid (fun k hk => by
            rcases hR4.lies with e | ⟨g, e, hg⟩
            · exact HV2.out k (e ▸ hk)
            · rw [e] at hk; have := Option.some.inj hk; have := F3.out.size; omega)
          have P4 := Lib.hid hP4
          clear hP4 hR4 hps
          have LJ : Hid ((l ++ Wire.enc ans) ++ st'.rest.data.toList = s.data.toList) := Lib.hid (by rw [← HST.out, FORM.out]; simp)
          have LS : Hid ((l ++ Wire.enc ans).length ≤ s.size) := Lib.hid (by
            have h2 := congrArg List.length LJ.out
            rw [List.length_append] at h2
            have := HSL.out
            omega)
          have hext := ext_take s _ _ LJ.out
          have hlen : (l ++ Wire.enc ans).length = s.size := by
            have h2 := congrArg List.length LJ.out
            rw [HR3.out, List.append_nil] at h2
            rw [h2]; exact HSL.out
          clear FORM LL U3 P3 F3 HU HP HF
          generalize hl4 : l ++ Wire.enc ans = l4 at P4 LJ LS hext hlen
          have HL4 := Lib.hid hl4
          clear hl4
          have hls := LS.out
          have hasz := arr_size l4
          go_wp2_with fail
          refine (pbytes_any w1.heap.size v4 l4 w4 P4.out).mono ?_
          rintro e w' ⟨rfl, rfl⟩
          generalize hta : (⟨l4.toArray⟩ : ByteArray) = ta at hext hasz ⊢
          have HTA := Lib.hid hta
          clear hta
          rw [← hasz] at hext hls hlen
          have HA := Lib.hid hasz
          clear hasz
          have q1 : ((ta.size : Int) == (s.size : Int)) = true := by simp; omega
          have q2 : (ta.size == s.size) = true := by simp; omega
          have HLN2 := Lib.hid hlen
          clear hlen
          have hgt : decide (s.size < ta.size) = false := by simp; omega
          have hgtz : decide ((s.size : Int) < (ta.size : Int)) = false := by simp; omega
          go_wp2_with fail
          refine (uend_any w0.heap.size st' w4 U4.out).mono ?_
          rintro e w' ⟨rfl, rfl⟩
          rw [FIN.out]
          go_wp2
          go_roundg (n - (i + 1))
          case measure => omega
          case rel => exact ⟨i + 1, st', v4, l4, by first | rfl | go_num, by omega, by omega, HE3, LJ, U4, P4, V4, F4⟩
        · have FIN := Lib.hid hf
          have HE3 := Lib.hid he
          have HR3 := Lib.hid hr
          have FORM := Lib.hid (HFORM.out he).1
          have BD := Lib.hid (HFORM.out he).2
          have LL : Hid ((l ++ Wire.enc ans).length ≤ 140737488355328) := Lib.hid (by
            have h2 := congrArg List.length HST.out
            rw [FORM.out] at h2
            simp only [List.length_append] at h2 ⊢
            have := HSL.out
            have := HSZ.out
            omega)
          clear he hr hf HFORM HFAIL
          go_wp2_with fail
          refine (uend_any w0.heap.size st' w3 U3.out).mono ?_
          rintro e w' ⟨rfl, rfl⟩
          rw [FIN.out]
          go_wp2_with fail
          refine (pint_any w1.heap.size v l ans BD.out.lo BD.out.hi w3 P3.out LL.out).mono ?_
          rintro e w4 ⟨rfl, v4, hP4, hR4⟩
          have hps : ¬ PackS w1.heap.size v w0.heap.size := by
            rintro (e | e)
            · have := Z1.out; omega
            · have := HV2.out _ e; have := S2.out; have := Z1.out; omega
          have U4 := Lib.hid (U3.out.fr hR4.fr hps : UnpAt w4 w0.heap.size st')
          have F4 := Lib.hid (F3.out.trans hR4.fr (fun x hx h => by
            rcases h with h | h
            · exact Or.inr h
            · have := HV2.out _ h; omega))
          have V4 : Hid (∀ k, v4.ownBlock = some k → w2.heap.size ≤ k) := Lib.hid (fun k hk => by
            rcases hR4.lies with e | ⟨g, e, hg⟩
            · exact HV2.out k (e ▸ hk)
            · rw [e] at hk; have := Option.some.inj hk; have := F3.out.size; omega)
          have P4 := Lib.hid hP4
          clear hP4 hR4 hps
          have LJ : Hid ((l ++ Wire.enc ans) ++ st'.rest.data.toList = s.data.toList) := Lib.hid (by rw [← HST.out, FORM.out]; simp)
          have LS : Hid ((l ++ Wire.enc ans).length ≤ s.size) := Lib.hid (by
            have h2 := congrArg List.length LJ.out
            rw [List.length_append] at h2
            have := HSL.out
            omega)
          have hext := ext_take s _ _ LJ.out
          have hlen : (l ++ Wire.enc ans).length ≠ s.size := by
            have h2 := congrArg List.length LJ.out
            rw [List.length_append] at h2
            have h3 : st'.rest.data.toList.length ≠ 0 := fun e => HR3.out (List.eq_nil_of_length_eq_zero e)
            have := HSL.out
            omega
          clear FORM LL U3 P3 F3 HU HP HF
          generalize hl4 : l ++ Wire.enc ans = l4 at P4 LJ LS hext hlen
          have HL4 := Lib.hid hl4
          clear hl4
          have hls := LS.out
          have hasz := arr_size l4
          go_wp2_with fail
          refine (pbytes_any w1.heap.size v4 l4 w4 P4.out).mono ?_
          rintro e w' ⟨rfl, rfl⟩
          generalize hta : (⟨l4.toArray⟩ : ByteArray) = ta at hext hasz ⊢
          have HTA := Lib.hid hta
          clear hta
          rw [← hasz] at hext hls hlen
          have HA := Lib.hid hasz
          clear hasz
          have q1 : ((ta.size : Int) == (s.size : Int)) = false := by simp; omega
          have q2 : (ta.size == s.size) = false := by simp; omega
          have HLN2 := Lib.hid hlen
          clear hlen
          have hgt : decide (s.size < ta.size) = false := by simp; omega
          have hgtz : decide ((s.size : Int) < (ta.size : Int)) = false := by simp; omega
          go_wp2_with fail
          refine (uend_any w0.heap.size st' w4 U4.out).mono ?_
          rintro e w' ⟨rfl, rfl⟩
          rw [FIN.out]
          go_wp2
          go_roundg (n - (i + 1))
          case measure => omega
          case rel => exact ⟨i + 1, st', v4, l4, by first | rfl | go_num, by omega, by omega, HE3, LJ, U4, P4, V4, F4⟩
        · obtain ⟨ha, h22⟩ := HFAIL.out he
          subst ha
          have FIN := Lib.hid hf
          have n1 : ((st'.err : Int) != 0) = true := by simp; omega
          have n2 : ((st'.err : Int) != 22) = true := by simp; omega
          have HBX := Lib.hid (B2.out.trans (F3.out.below (B := W.heap.size) (fun k _ h => by have := Z1.out; have := ZB0.out; omega) (by have := B2.out.size; omega)))
          clear he hf h22 HFORM HFAIL
          go_wp2_with fail
          refine (uend_any w0.heap.size st' w3 U3.out).mono ?_
          rintro e w' ⟨rfl, rfl⟩
          rw [FIN.out]
          go_wp2
          go_ret
          exact ⟨rfl, HBX.out⟩
      · have k0 : ((q % 3).toNat) = 1 := by omega
        rw [k0]
        have HK0 := Lib.hid k0
        have HQ := Lib.hid hk
        clear k0 hk
        go_wp2_with fail
        refine (utext_any (w0.heap.size) st wr HU.out HRS.out).mono ?_
        rintro e w3 ⟨rfl, hU3, hF3⟩
        have U3 := Lib.hid hU3
        have P3 := Lib.hid (HP.out.fr hF3 (by have := Z1.out; omega) (fun k hk h => by have := HV2.out k hk; have := S2.out; have := Z1.out; have h : k = w0.heap.size := h; omega))
        have F3 := Lib.hid (HF.out.trans hF3 (fun _ _ h => Or.inl h))
        have HFORM := Lib.hid (fun h => text_form st HERR.out h)
        have HFAIL := Lib.hid (fun h => text_fail st HERR.out h)
        clear hU3 hF3
        generalize st.text.2 = ans at HFORM HFAIL ⊢
        generalize st.text.1 = st' at U3 HFORM HFAIL ⊢
        rcases fin_of st' with ⟨he, hr, hf⟩ | ⟨he, hr, hf⟩ | ⟨he, hf⟩
        · have FIN := Lib.hid hf
          have HE3 := Lib.hid he
          have HR3 := Lib.hid hr
          have FORM := Lib.hid (HFORM.out he).1
          have BD := Lib.hid (HFORM.out he).2
          have LL : Hid ((l ++ (Wire.enc ans.size ++ ans.data.toList)).length ≤ 140737488355328) := Lib.hid (by
            have h2 := congrArg List.length HST.out
            rw [FORM.out] at h2
            simp only [List.length_append] at h2 ⊢
            have := HSL.out
            have := HSZ.out
            omega)
          clear he hr hf HFORM HFAIL
          go_wp2_with fail
          refine (uend_any w0.heap.size st' w3 U3.out).mono ?_
          rintro e w' ⟨rfl, rfl⟩
          rw [FIN.out]
          go_wp2_with fail
          refine (ptext_any w1.heap.size v l ans w3 P3.out LL.out).mono ?_
          rintro e w4 ⟨rfl, v4, hP4, hR4⟩
          have hps : ¬ PackS w1.heap.size v w0.heap.size := by
            rintro (e | e)
            · have := Z1.out; omega
            · have := HV2.out _ e; have := S2.out; have := Z1.out; omega
          have U4 := Lib.hid (U3.out.fr hR4.fr hps : UnpAt w4 w0.heap.size st')
          have F4 := Lib.hid (F3.out.trans hR4.fr (fun x hx h => by
            rcases h with h | h
            · exact Or.inr h
            · have := HV2.out _ h; omega))
          have V4 : Hid (∀ k, v4.ownBlock = some k → w2.heap.size ≤ k) := Lib.hid (fun k hk => by
            rcases hR4.lies with e | ⟨g, e, hg⟩
            · exact HV2.out k (e ▸ hk)
            · rw [e] at hk; have := Option.some.inj hk; have := F3.out.size; omega)
          have P4 := Lib.hid hP4
          clear hP4 hR4 hps
          have LJ : Hid ((l ++ (Wire.enc ans.size ++ ans.data.toList)) ++ st'.rest.data.toList = s.data.toList) := Lib.hid (by rw [← HST.out, FORM.out]; simp)
          have LS : Hid ((l ++ (Wire.enc ans.size ++ ans.data.toList)).length ≤ s.size) := Lib.hid (by
            have h2 := congrArg List.length LJ.out
            rw [List.length_append] at h2
            have := HSL.out
            omega)
          have hext := ext_take s _ _ LJ.out
          have hlen : (l ++ (Wire.enc ans.size ++ ans.data.toList)).length = s.size := by
            have h2 := congrArg List.length LJ.out
            rw [HR3.out, List.append_nil] at h2
            rw [h2]; exact HSL.out
          clear FORM LL U3 P3 F3 HU HP HF
          generalize hl4 : l ++ (Wire.enc ans.size ++ ans.data.toList) = l4 at P4 LJ LS hext hlen
          have HL4 := Lib.hid hl4
          clear hl4
          have hls := LS.out
          have hasz := arr_size l4
          go_wp2_with fail
          refine (pbytes_any w1.heap.size v4 l4 w4 P4.out).mono ?_
          rintro e w' ⟨rfl, rfl⟩
          generalize hta : (⟨l4.toArray⟩ : ByteArray) = ta at hext hasz ⊢
          have HTA := Lib.hid hta
          clear hta
          rw [← hasz] at hext hls hlen
          have HA := Lib.hid hasz
          clear hasz
          have q1 : ((ta.size : Int) == (s.size : Int)) = true := by simp; omega
          have q2 : (ta.size == s.size) = true := by simp; omega
          have HLN2 := Lib.hid hlen
          clear hlen
          have hgt : decide (s.size < ta.size) = false := by simp; omega
          have hgtz : decide ((s.size : Int) < (ta.size : Int)) = false := by simp; omega
          go_wp2_with fail
          refine (uend_any w0.heap.size st' w4 U4.out).mono ?_
          rintro e w' ⟨rfl, rfl⟩
          rw [FIN.out]
          go_wp2
          go_roundg (n - (i + 1))
          case measure => omega
          case rel => exact ⟨i + 1, st', v4, l4, by first | rfl | go_num, by omega, by omega, HE3, LJ, U4, P4, V4, F4⟩
        · have FIN := Lib.hid hf
          have HE3 := Lib.hid he
          have HR3 := Lib.hid hr
          have FORM := Lib.hid (HFORM.out he).1
          have BD := Lib.hid (HFORM.out he).2
          have LL : Hid ((l ++ (Wire.enc ans.size ++ ans.data.toList)).length ≤ 140737488355328) := Lib.hid (by
            have h2 := congrArg List.length HST.out
            rw [FORM.out] at h2
            simp only [List.length_append] at h2 ⊢
            have := HSL.out
            have := HSZ.out
            omega)
          clear he hr hf HFORM HFAIL
          go_wp2_with fail
          refine (uend_any w0.heap.size st' w3 U3.out).mono ?_
          rintro e w' ⟨rfl, rfl⟩
          rw [FIN.out]
          go_wp2_with fail
          refine (ptext_any w1.heap.size v l ans w3 P3.out LL.out).mono ?_
          rintro e w4 ⟨rfl, v4, hP4, hR4⟩
          have hps : ¬ PackS w1.heap.size v w0.heap.size := by
            rintro (e | e)
            · have := Z1.out; omega
            · have := HV2.out _ e; have := S2.out; have := Z1.out; omega
          have U4 := Lib.hid (U3.out.fr hR4.fr hps : UnpAt w4 w0.heap.size st')
          have F4 := Lib.hid (F3.out.trans hR4.fr (fun x hx h => by
            rcases h with h | h
            · exact Or.inr h
            · have := HV2.out _ h; omega))
          have V4 : Hid (∀ k, v4.ownBlock = some k → w2.heap.size ≤ k) := Lib.hid (fun k hk => by
            rcases hR4.lies with e | ⟨g, e, hg⟩
            · exact HV2.out k (e ▸ hk)
            · rw [e] at hk; have := Option.some.inj hk; have := F3.out.size; omega)
          have P4 := Lib.hid hP4
          clear hP4 hR4 hps
          have LJ : Hid ((l ++ (Wire.enc ans.size ++ ans.data.toList)) ++ st'.rest.data.toList = s.data.toList) := Lib.hid (by rw [← HST.out, FORM.out]; simp)
          have LS : Hid ((l ++ (Wire.enc ans.size ++ ans.data.toList)).length ≤ s.size) := Lib.hid (by
            have h2 := congrArg List.length LJ.out
            rw [List.length_append] at h2
            have := HSL.out
            omega)
          have hext := ext_take s _ _ LJ.out
          have hlen : (l ++ (Wire.enc ans.size ++ ans.data.toList)).length ≠ s.size := by
            have h2 := congrArg List.length LJ.out
            rw [List.length_append] at h2
            have h3 : st'.rest.data.toList.length ≠ 0 := fun e => HR3.out (List.eq_nil_of_length_eq_zero e)
            have := HSL.out
            omega
          clear FORM LL U3 P3 F3 HU HP HF
          generalize hl4 : l ++ (Wire.enc ans.size ++ ans.data.toList) = l4 at P4 LJ LS hext hlen
          have HL4 := Lib.hid hl4
          clear hl4
          have hls := LS.out
          have hasz := arr_size l4
          go_wp2_with fail
          refine (pbytes_any w1.heap.size v4 l4 w4 P4.out).mono ?_
          rintro e w' ⟨rfl, rfl⟩
          generalize hta : (⟨l4.toArray⟩ : ByteArray) = ta at hext hasz ⊢
          have HTA := Lib.hid hta
          clear hta
          rw [← hasz] at hext hls hlen
          have HA := Lib.hid hasz
          clear hasz
          have q1 : ((ta.size : Int) == (s.size : Int)) = false := by simp; omega
          have q2 : (ta.size == s.size) = false := by simp; omega
          have HLN2 := Lib.hid hlen
          clear hlen
          have hgt : decide (s.size < ta.size) = false := by simp; omega
          have hgtz : decide ((s.size : Int) < (ta.size : Int)) = false := by simp; omega
          go_wp2_with fail
          refine (uend_any w0.heap.size st' w4 U4.out).mono ?_
          rintro e w' ⟨rfl, rfl⟩
          rw [FIN.out]
          go_wp2
          go_roundg (n - (i + 1))
          case measure => omega
          case rel => exact ⟨i + 1, st', v4, l4, by first | rfl | go_num, by omega, by omega, HE3, LJ, U4, P4, V4, F4⟩
        · obtain ⟨ha, h22⟩ := HFAIL.out he
          subst ha
          have FIN := Lib.hid hf
          have n1 : ((st'.err : Int) != 0) = true := by simp; omega
          have n2 : ((st'.err : Int) != 22) = true := by simp; omega
          have HBX := Lib.hid (B2.out.trans (F3.out.below (B := W.heap.size) (fun k _ h => by have := Z1.out; have := ZB0.out; omega) (by have := B2.out.size; omega)))
          clear he hf h22 HFORM HFAIL
          go_wp2_with fail
          refine (uend_any w0.heap.size st' w3 U3.out).mono ?_
          rintro e w' ⟨rfl, rfl⟩
          rw [FIN.out]
          go_wp2
          go_ret
          exact ⟨rfl, HBX.out⟩
      · have k0 : ((q % 3).toNat) = 2 := by omega
        rw [k0]
        have HK0 := Lib.hid k0
        have HQ := Lib.hid hk
        clear k0 hk
        go_wp2_with fail
        refine (ubool_any (w0.heap.size) st wr HU.out).mono ?_
        rintro e w3 ⟨rfl, hU3, hF3⟩
        have U3 := Lib.hid hU3
        have P3 := Lib.hid (HP.out.fr hF3 (by have := Z1.out; omega) (fun k hk h => by have := HV2.out k hk; have := S2.out; have := Z1.out; have h : k = w0.heap.size := h; omega))
        have F3 := Lib.hid (HF.out.trans hF3 (fun _ _ h => Or.inl h))
        have HFORM := Lib.hid (fun h => bool_form st HERR.out h)
        have HFAIL := Lib.hid (fun h => bool_fail st HERR.out h)
        clear hU3 hF3
        generalize st.bool.2 = ans at HFORM HFAIL ⊢
        generalize st.bool.1 = st' at U3 HFORM HFAIL ⊢
        rcases fin_of st' with ⟨he, hr, hf⟩ | ⟨he, hr, hf⟩ | ⟨he, hf⟩
        · have FIN := Lib.hid hf
          have HE3 := Lib.hid he
          have HR3 := Lib.hid hr
          have FORM := Lib.hid (HFORM.out he)
          skip
          have LL : Hid ((l ++ [if ans then 1 else 0]).length ≤ 140737488355328) := Lib.hid (by
            have h2 := congrArg List.length HST.out
            rw [FORM.out] at h2
            simp only [List.length_append] at h2 ⊢
            have := HSL.out
            have := HSZ.out
            omega)
          clear he hr hf HFORM HFAIL
          go_wp2_with fail
          refine (uend_any w0.heap.size st' w3 U3.out).mono ?_
          rintro e w' ⟨rfl, rfl⟩
          rw [FIN.out]
          go_wp2_with fail
          refine (pbool_any w1.heap.size v l ans w3 P3.out (by have := LL.out; rw [List.length_append] at this; exact this)).mono ?_
          rintro e w4 ⟨rfl, v4, hP4, hR4⟩
          have hps : ¬ PackS w1.heap.size v w0.heap.size := by
            rintro (e | e)
            · have := Z1.out; omega
            · have := HV2.out _ e; have := S2.out; have := Z1.out; omega
          have U4 := Lib.hid (U3.out.fr hR4.fr hps : UnpAt w4 w0.heap.size st')
          have F4 := Lib.hid (F3.out.trans hR4.fr (fun x hx h => by
            rcases h with h | h
            · exact Or.inr h
            · have := HV2.out _ h; omega))
          have V4 : Hid (∀ k, v4.ownBlock = some k → w2.heap.size ≤ k) := Lib.hid (fun k hk => by
            rcases hR4.lies with e | ⟨g, e, hg⟩
            · exact HV2.out k (e ▸ hk)
            · rw [e] at hk; have := Option.some.inj hk; have := F3.out.size; omega)
          have P4 := Lib.hid hP4
          clear hP4 hR4 hps
          have LJ : Hid ((l ++ [if ans then 1 else 0]) ++ st'.rest.data.toList = s.data.toList) := Lib.hid (by rw [← HST.out, FORM.out]; simp)
          have LS : Hid ((l ++ [if ans then 1 else 0]).length ≤ s.size) := Lib.hid (by
            have h2 := congrArg List.length LJ.out
            rw [List.length_append] at h2
            have := HSL.out
            omega)
          have hext := ext_take s _ _ LJ.out
          have hlen : (l ++ [if ans then 1 else 0]).length = s.size := by
            have h2 := congrArg List.length LJ.out
            rw [HR3.out, List.append_nil] at h2
            rw [h2]; exact HSL.out
          clear FORM LL U3 P3 F3 HU HP HF
          generalize hl4 : l ++ [if ans then 1 else 0] = l4 at P4 LJ LS hext hlen
          have HL4 := Lib.hid hl4
          clear hl4
          have hls := LS.out
          have hasz := arr_size l4
          go_wp2_with fail
          refine (pbytes_any w1.heap.size v4 l4 w4 P4.out).mono ?_
          rintro e w' ⟨rfl, rfl⟩
          generalize hta : (⟨l4.toArray⟩ : ByteArray) = ta at hext hasz ⊢
          have HTA := Lib.hid hta
          clear hta
          rw [← hasz] at hext hls hlen
          have HA := Lib.hid hasz
          clear hasz
          have q1 : ((ta.size : Int) == (s.size : Int)) = true := by simp; omega
          have q2 : (ta.size == s.size) = true := by simp; omega
          have HLN2 := Lib.hid hlen
          clear hlen
          have hgt : decide (s.size < ta.size) = false := by simp; omega
          have hgtz : decide ((s.size : Int) < (ta.size : Int)) = false := by simp; omega
          go_wp2_with fail
          refine (uend_any w0.heap.size st' w4 U4.out).mono ?_
          rintro e w' ⟨rfl, rfl⟩
          rw [FIN.out]
          go_wp2
          go_roundg (n - (i + 1))
          case measure => omega
          case rel => exact ⟨i + 1, st', v4, l4, by first | rfl | go_num, by omega, by omega, HE3, LJ, U4, P4, V4, F4⟩
        · have FIN := Lib.hid hf
          have HE3 := Lib.hid he
          have HR3 := Lib.hid hr
          have FORM := Lib.hid (HFORM.out he)
          skip
          have LL : Hid ((l ++ [if ans then 1 else 0]).length ≤ 140737488355328) := Lib.hid (by
            have h2 := congrArg List.length HST.out
            rw [FORM.out] at h2
            simp only [List.length_append] at h2 ⊢
            have := HSL.out
            have := HSZ.out
            omega)
          clear he hr hf HFORM HFAIL
          go_wp2_with fail
          refine (uend_any w0.heap.size st' w3 U3.out).mono ?_
          rintro e w' ⟨rfl, rfl⟩
          rw [FIN.out]
          go_wp2_with fail
          refine (pbool_any w1.heap.size v l ans w3 P3.out (by have := LL.out; rw [List.length_append] at this; exact this)).mono ?_
          rintro e w4 ⟨rfl, v4, hP4, hR4⟩
          have hps : ¬ PackS w1.heap.size v w0.heap.size := by
            rintro (e | e)
            · have := Z1.out; omega
            · have := HV2.out _ e; have := S2.out; have := Z1.out; omega
          have U4 := Lib.hid (U3.out.fr hR4.fr hps : UnpAt w4 w0.heap.size st')
          have F4 := Lib.hid (F3.out.trans hR4.fr (fun x hx h => by
            rcases h with h | h
            · exact Or.inr h
            · have := HV2.out _ h; omega))
          have V4 : Hid (∀ k, v4.ownBlock = some k → w2.heap.size ≤ k) := Lib.hid (fun k hk => by
            rcases hR4.lies with e | ⟨g, e, hg⟩
            · exact HV2.out k (e ▸ hk)
            · rw [e] at hk; have := Option.some.inj hk; have := F3.out.size; omega)
          have P4 := Lib.hid hP4
          clear hP4 hR4 hps
          have LJ : Hid ((l ++ [if ans then 1 else 0]) ++ st'.rest.data.toList = s.data.toList) := Lib.hid (by rw [← HST.out, FORM.out]; simp)
          have LS : Hid ((l ++ [if ans then 1 else 0]).length ≤ s.size) := Lib.hid (by
            have h2 := congrArg List.length LJ.out
            rw [List.length_append] at h2
            have := HSL.out
            omega)
          have hext := ext_take s _ _ LJ.out
          have hlen : (l ++ [if ans then 1 else 0]).length ≠ s.size := by
            have h2 := congrArg List.length LJ.out
            rw [List.length_append] at h2
            have h3 : st'.rest.data.toList.length ≠ 0 := fun e => HR3.out (List.eq_nil_of_length_eq_zero e)
            have := HSL.out
            omega
          clear FORM LL U3 P3 F3 HU HP HF
          generalize hl4 : l ++ [if ans then 1 else 0] = l4 at P4 LJ LS hext hlen
          have HL4 := Lib.hid hl4
          clear hl4
          have hls := LS.out
          have hasz := arr_size l4
          go_wp2_with fail
          refine (pbytes_any w1.heap.size v4 l4 w4 P4.out).mono ?_
          rintro e w' ⟨rfl, rfl⟩
          generalize hta : (⟨l4.toArray⟩ : ByteArray) = ta at hext hasz ⊢
          have HTA := Lib.hid hta
          clear hta
          rw [← hasz] at hext hls hlen
          have HA := Lib.hid hasz
          clear hasz
          have q1 : ((ta.size : Int) == (s.size : Int)) = false := by simp; omega
          have q2 : (ta.size == s.size) = false := by simp; omega
          have HLN2 := Lib.hid hlen
          clear hlen
          have hgt : decide (s.size < ta.size) = false := by simp; omega
          have hgtz : decide ((s.size : Int) < (ta.size : Int)) = false := by simp; omega
          go_wp2_with fail
          refine (uend_any w0.heap.size st' w4 U4.out).mono ?_
          rintro e w' ⟨rfl, rfl⟩
          rw [FIN.out]
          go_wp2
          go_roundg (n - (i + 1))
          case measure => omega
          case rel => exact ⟨i + 1, st', v4, l4, by first | rfl | go_num, by omega, by omega, HE3, LJ, U4, P4, V4, F4⟩
        · obtain ⟨ha, h22⟩ := HFAIL.out he
          subst ha
          have FIN := Lib.hid hf
          have n1 : ((st'.err : Int) != 0) = true := by simp; omega
          have n2 : ((st'.err : Int) != 22) = true := by simp; omega
          have HBX := Lib.hid (B2.out.trans (F3.out.below (B := W.heap.size) (fun k _ h => by have := Z1.out; have := ZB0.out; omega) (by have := B2.out.size; omega)))
          clear he hf h22 HFORM HFAIL
          go_wp2_with fail
          refine (uend_any w0.heap.size st' w3 U3.out).mono ?_
          rintro e w' ⟨rfl, rfl⟩
          rw [FIN.out]
          go_wp2
          go_ret
          exact ⟨rfl, HBX.out⟩
    · have hltz : ¬ (i : Int) < (n : Int) := by omega
      go_wp2
      go_ret
      exact ⟨rfl, HBW.out⟩
end Go.Proofs.Ytbpphflegjebaaa
